/- What the law of walks carries. -/
import Derived.Test.YticpeniaplhpmaaIt
set_option linter.unusedVariables false
set_option linter.unusedSimpArgs false
namespace Go.Proofs.Yticpeniaplhpmaa.Given
open Go.RowKit Go.Proofs.YticpeniaplhpmaaW.PrintWords Go.Proofs.Yticpeniaplhpmaa.RF
theorem w64 {n : Int} (h0 : -9223372036854775808 ≤ n) (h1 : n ≤ 9223372036854775807) : wrap64 n = n := by unfold wrap64; omega
/-- The sum of the first ones. -/
def tri : Nat → Nat
  | 0 => 0
  | n + 1 => tri n + (n + 1)
theorem tri_le : ∀ n, n ≤ 9 → tri n ≤ 45 := by decide
theorem tri_two : ∀ n, n ≤ 9 → n * (n + 1) = 2 * tri n := by decide
theorem tri_wrap : ∀ q : Nat, q ≤ 9 → wrap64 ((wrap64 ((q : Int) * ((q : Int) + 1))).tdiv 2) = (tri q : Int) := by
  intro q hq
  have e : (q : Int) * ((q : Int) + 1) = 2 * (tri q : Int) := by have := tri_two q hq; exact_mod_cast this
  have h := tri_le q hq
  rw [e, w64 (n := 2 * (tri q : Int)) (by omega) (by omega), Int.mul_tdiv_cancel_left _ (by decide), w64 (by omega) (by omega)]
theorem upto_at {α : Type} {f : Nat → α} {n : Nat} {pre : List α} {x : α} (h : pre ++ [x] <+: upto f n) : x = f pre.length ∧ pre.length < n := by
  have hl := h.length_le
  rw [upto_length, List.length_append] at hl
  have hlt : pre.length < n := by simp at hl; omega
  refine ⟨?_, hlt⟩
  obtain ⟨t, ht⟩ := h
  have h1 : (pre ++ [x] ++ t)[pre.length]? = some x := by simp
  rw [ht] at h1
  simp [upto, hlt] at h1
  exact h1.symm
/-- The blocks' order. -/
structure Ord (b p g xd xm xs xi : Nat) : Prop where
  a : b < p
  c : b < g
  d : p < xd
  e : g < xd
  f : xd < xm
  h : xm < xs
  i : xs < xi
structure WSt (w : World) (p g : Nat) (D : DS) (xd xm xs xi : Nat) (m c n : Int) (W : World) : Prop where
  res : Boxed W w.heap.size 4 (.bool false)
  d : Boxed W xd 22 (.pointer (some ⟨p, 0, none⟩))
  m : Boxed W xm 3 (.int .i64 m)
  seen : Boxed W xs 3 (.int .i64 c)
  inn : Boxed W xi 3 (.int .i64 n)
  disk : DiskAt w.heap.size p g D W
  below : Below w.heap.size w W
theorem Boxed_ch {S : Nat → Prop} {W W' : World} {x : Nat} {t : TypeId} {v : Value} (h : Boxed W x t v) (hc : Ch S W W') (hx : ¬ S x) : Boxed W' x t v := (hc.block x h.lt hx).trans h
theorem DiskAt.row {b p g : Nat} {D : DS} {w : World} (h : DiskAt b p g D w) : (∃ o, w.heap[p]? = some o ∧ o.isCells = true) ∧ ∃ o, w.heap[g]? = some o ∧ o.isCells = true := by
  obtain ⟨_, cap, h1, h2⟩ := h
  refine ⟨⟨_, h1, rfl⟩, ?_⟩
  rcases h2.2 with ⟨hv, _⟩ | ⟨g', cap', cur, hv, _, hg, _⟩
  · cases hv
  · cases hv
    exact ⟨_, hg, rfl⟩
section
variable {w : World} {p g : Nat} {D : DS} {xd xm xs xi : Nat} {m c n : Int} {W W' : World}
theorem WSt.ch {S : Nat → Prop} (h : WSt w p g D xd xm xs xi m c n W) (hc : Ch S W W') (h0 : ¬ S w.heap.size) (h1 : ¬ S xd) (h2 : ¬ S xm) (h3 : ¬ S xs) (h4 : ¬ S xi) (h5 : ¬ S p) (h6 : ¬ S g) (hS : ∀ i, S i → w.heap.size ≤ i) : WSt w p g D xd xm xs xi m c n W' :=
  ⟨Boxed_ch h.res hc h0, Boxed_ch h.d hc h1, Boxed_ch h.m hc h2, Boxed_ch h.seen hc h3, Boxed_ch h.inn hc h4, h.disk.ch hc h5 h6, hc.below h.below (Nat.le_refl _) hS⟩
theorem WSt.step (h : WSt w p g D xd xm xs xi m c n W) (hb : Below W.heap.size W W') : WSt w p g D xd xm xs xi m c n W' := h.ch (S := fun _ => False) (Ch.of_new hb) id id id id id id id (fun _ h => h.elim)
theorem turn_ch {B : Nat} (h : Turn (fun _ => False) B W W') : Ch (fun i => B ≤ i ∧ ∃ o : Obj, W.heap[i]? = some o ∧ o.isCells = false) W W' := by
  obtain ⟨row, hg, hr⟩ := h
  refine ⟨hg.os, hg.tape, hg.output, hg.size, fun i hi hs => hg.block i hi fun e => hs ?_⟩
  rcases hr i e.symm with h | h
  · exact h.elim
  · exact h
theorem boxed_not {B : Nat} {x : Nat} {t : TypeId} {v : Value} (h : Boxed W x t v) : ¬ (B ≤ x ∧ ∃ o : Obj, W.heap[x]? = some o ∧ o.isCells = false) := by
  rintro ⟨_, o, ho, hc⟩
  rw [show W.heap[x]? = _ from h] at ho
  cases ho
  cases hc
theorem cells_not {B : Nat} {x : Nat} (h : ∃ o, W.heap[x]? = some o ∧ o.isCells = true) : ¬ (B ≤ x ∧ ∃ o : Obj, W.heap[x]? = some o ∧ o.isCells = false) := by
  rintro ⟨_, o, ho, hc⟩
  obtain ⟨o', h1, h2⟩ := h
  rw [h1] at ho
  cases ho
  rw [hc] at h2
  cases h2
theorem WSt.turn {B : Nat} (h : WSt w p g D xd xm xs xi m c n W) (hB : w.heap.size ≤ B) (ht : Turn (fun _ => False) B W W') : WSt w p g D xd xm xs xi m c n W' :=
  h.ch (turn_ch ht) (boxed_not h.res) (boxed_not h.d) (boxed_not h.m) (boxed_not h.seen) (boxed_not h.inn) (cells_not h.disk.row.1) (cells_not h.disk.row.2) (fun i hi => Nat.le_trans hB hi.1)
theorem boxed_turn {B : Nat} {x : Nat} {t : TypeId} {v : Value} (h : Boxed W x t v) (ht : Turn (fun _ => False) B W W') : Boxed W' x t v := Boxed_ch h (turn_ch ht) (boxed_not h)
theorem set_ch (W : World) (x : Nat) (v : Value) : Ch (fun i => i = x) W (W.setCell ⟨x, 0, none⟩ v) := (Ch.refl (fun i => i = x) W).set ⟨x, 0, none⟩ rfl v
theorem WSt.setSeen (h : WSt w p g D xd xm xs xi m c n W) (o : Ord w.heap.size p g xd xm xs xi) (c' : Int) : WSt w p g D xd xm xs xi m c' n (W.setCell ⟨xs, 0, none⟩ (.int .i64 c')) := by
  obtain ⟨a1, a2, a3, a4, a5, a6, a7⟩ := o
  have hc := set_ch W xs (.int .i64 c')
  exact ⟨Boxed_ch h.res hc (by omega), Boxed_ch h.d hc (by omega), Boxed_ch h.m hc (by omega), h.seen.set _, Boxed_ch h.inn hc (by omega), h.disk.ch hc (by omega) (by omega), hc.below h.below (Nat.le_refl _) (by omega)⟩
theorem WSt.setInn (h : WSt w p g D xd xm xs xi m c n W) (o : Ord w.heap.size p g xd xm xs xi) (n' : Int) : WSt w p g D xd xm xs xi m c n' (W.setCell ⟨xi, 0, none⟩ (.int .i64 n')) := by
  obtain ⟨a1, a2, a3, a4, a5, a6, a7⟩ := o
  have hc := set_ch W xi (.int .i64 n')
  exact ⟨Boxed_ch h.res hc (by omega), Boxed_ch h.d hc (by omega), Boxed_ch h.m hc (by omega), Boxed_ch h.seen hc (by omega), h.inn.set _, h.disk.ch hc (by omega) (by omega), hc.below h.below (Nat.le_refl _) (by omega)⟩
theorem WSt.cells (h : WSt w p g D xd xm xs xi m c n W) : W.cell? ⟨xd, 0, none⟩ = some (.pointer (some ⟨p, 0, none⟩)) ∧ W.cell? ⟨xm, 0, none⟩ = some (.int .i64 m) ∧ W.cell? ⟨xs, 0, none⟩ = some (.int .i64 c) ∧ W.cell? ⟨xi, 0, none⟩ = some (.int .i64 n) ∧ W.frozen? ⟨xs, 0, none⟩ = false ∧ W.frozen? ⟨xi, 0, none⟩ = false ∧ W.cell? ⟨w.heap.size, 0, none⟩ = some (.bool false) ∧ W.frozen? ⟨w.heap.size, 0, none⟩ = false :=
  ⟨h.d.cell, h.m.cell, h.seen.cell, h.inn.cell, h.seen.frozen, h.inn.frozen, h.res.cell, h.res.frozen⟩
/-- What a round keeps for the loop around it. -/
structure Kps (B q : Nat) (A C : World) : Prop where
  from_ : KeepsFrom B A C
  keep : KeepB q A C
theorem Kps.refl (B q : Nat) (A : World) : Kps B q A A := ⟨KeepsFrom.refl _ _, fun _ ho => ho⟩
theorem Kps.trans {B q : Nat} {A C E : World} (h : Kps B q A C) (k : Kps B q C E) : Kps B q A E := ⟨h.from_.trans k.from_, h.keep.trans k.keep⟩
theorem Kps.new {B q : Nat} {A C : World} (h : Below A.heap.size A C) : Kps B q A C := ⟨⟨h.size, fun k o _ hk _ => (h.block k (Array.getElem?_eq_some_iff.1 hk).1).trans hk⟩, KeepB.new h⟩
theorem Kps.set {B q : Nat} (W : World) (x : Nat) (v : Value) (hx : q ≠ x) : Kps B q W (W.setCell ⟨x, 0, none⟩ v) := ⟨(KeepsOthers.setCell _ _ _).from _, KeepB.set W x v hx⟩
theorem Kps.alloc {B q : Nat} (W : World) (o : Obj) : Kps B q W (W.alloc o) := Kps.new ((Below.refl _ W).alloc (Nat.le_refl _) _)
theorem Kps.turn {B q B2 : Nat} {S A C : World} (h : Kps B q S A) (hB : S.heap.size ≤ B2) (ht : Turn (fun _ => False) B2 A C) : Kps B q S C := by
  obtain ⟨row, hg, hr⟩ := ht
  have ne : ∀ k, k < S.heap.size → some k ≠ row := fun k hk e => by
    rcases hr k e.symm with h | ⟨h, _⟩
    · exact h.elim
    · omega
  refine ⟨⟨Nat.le_trans h.from_.size hg.size, fun k o hk ho hc => ?_⟩, fun o ho => ?_⟩
  · have := h.from_.same k o hk ho hc
    exact (hg.block k (Array.getElem?_eq_some_iff.1 this).1 (ne k (Array.getElem?_eq_some_iff.1 ho).1)).trans this
  · have := h.keep o ho
    exact (hg.block q (Array.getElem?_eq_some_iff.1 this).1 (ne q (Array.getElem?_eq_some_iff.1 ho).1)).trans this
theorem sc_new {b p' g' : Nat} {E : DS} {v : Int} (h : DiskAt b p' g' E W) (hk : (E.secs.length : Int) = v) : Calls Try.prog 12 #[.pointer (some ⟨p', 0, none⟩)] W fun e W' => e = .returned (.int .i64 v) ∧ Below W.heap.size W W' :=
  (sectors_call h).mono fun e W' q => by rw [hk] at q; exact ⟨q.1, q.2.below⟩
/-- At the end: with the mark of the walk. -/
structure WEnd (w : World) (p g : Nat) (D : DS) (xd xm xs xi : Nat) (m c n : Int) (Dd : Nat) (W : World) : Prop where
  st : WSt w p g D xd xm xs xi m c n W
  mark : W.heap[Dd]? = some (.deferred (some []))
theorem WEnd.step {Dd : Nat} (h : WEnd w p g D xd xm xs xi m c n Dd W) (hb : Below W.heap.size W W') : WEnd w p g D xd xm xs xi m c n Dd W' := ⟨h.st.step hb, (hb.block Dd (Array.getElem?_eq_some_iff.1 h.mark).1).trans h.mark⟩
theorem disk_step {b p' g' : Nat} {E : DS} (h : DiskAt b p' g' E W) (hb : Below W.heap.size W W') : DiskAt b p' g' E W' := h.ch (S := fun _ => False) (Ch.of_new hb) id id
theorem read_in {l k : Nat} {i : Int} {y : ByteArray} (h : WSt w p g D xd xm xs xi m c n W) (hD : D.Ok) (hr : D.read i = (y, true)) : CallsIn (Fence.wide.inRound l) k Try.prog 10 #[.pointer (some ⟨p, 0, none⟩), .int .i64 i] W fun e W' => e = .returned (.tuple #[.string y, .bool true]) ∧ Below W.heap.size W W' :=
  (CallsIn.inRound l ((callsIn_wide (n := k)).2 (read_call h.disk hD i))).mono fun e W' q => by rw [hr] at q; exact ⟨q.1, q.2.below⟩
theorem all_in {l k : Nat} (h : WSt w p g D xd xm xs xi m c n W) (hD : D.Ok) : CallsIn (Fence.wide.inRound l) k Try.prog 18 #[.pointer (some ⟨p, 0, none⟩)] W fun e w' => ∃ s g', e = .returned (.func (.func 25) #[] #[.pointer (some ⟨s, 0, none⟩)]) ∧ ItAt W.heap.size s g' D.secs w' ∧ Below W.heap.size W w' :=
  CallsIn.inRound l ((callsIn_wide (n := k)).2 (all_call h.disk hD))
end
end Go.Proofs.Yticpeniaplhpmaa.Given
