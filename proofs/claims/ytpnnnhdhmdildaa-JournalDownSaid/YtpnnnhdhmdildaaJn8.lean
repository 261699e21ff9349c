/- The journal: Open: what its walk carries. -/
import Derived.Test.YtpnnnhdhmdildaaJn7
set_option linter.unusedVariables false
set_option linter.unusedSimpArgs false
namespace Go.Proofs.Ytpnnnhdhmdildaa.Given
open Go.RowKit Go.Proofs.YtpnnnhdhmdildaaW.PrintWords Go.Proofs.Ytpnnnhdhmdildaa.J Go.Proofs.Ytpnnnhdhmdildaa.RF
theorem upto_at {α : Type} {f : Nat → α} {n : Nat} {pre : List α} {x : α} (h : pre ++ [x] <+: upto f n) : x = f pre.length ∧ pre.length < n := by
  have hl := h.length_le
  rw [upto_length, List.length_append] at hl
  have hlt : pre.length < n := by simp at hl; omega
  refine ⟨?_, hlt⟩
  obtain ⟨t, ht⟩ := h
  have h1 : (pre ++ [x] ++ t)[pre.length]? = some x := by simp
  rw [ht] at h1
  simp [upto, hlt] at h1
  exact h1.symm
theorem Boxed_ch {S : Nat → Prop} {W W' : World} {x : Nat} {t : TypeId} {v : Value} (h : Boxed W x t v) (hc : Ch S W W') (hx : ¬ S x) : Boxed W' x t v := (hc.block x h.lt hx).trans h
theorem turn_ch {B : Nat} {W W' : World} (h : Turn (fun _ => False) B W W') : Ch (fun i => B ≤ i ∧ ∃ o : Obj, W.heap[i]? = some o ∧ o.isCells = false) W W' := by
  obtain ⟨row, hg, hr⟩ := h
  refine ⟨hg.os, hg.tape, hg.output, hg.size, fun i hi hs => hg.block i hi fun e => hs ?_⟩
  rcases hr i e.symm with h | h
  · exact h.elim
  · exact h
theorem boxed_not {B : Nat} {x : Nat} {t : TypeId} {v : Value} {W : World} (h : Boxed W x t v) : ¬ (B ≤ x ∧ ∃ o : Obj, W.heap[x]? = some o ∧ o.isCells = false) := by
  rintro ⟨_, o, ho, hc⟩
  rw [show W.heap[x]? = _ from h] at ho
  cases ho
  cases hc
theorem cells_not {B : Nat} {x : Nat} {W : World} (h : ∃ o, W.heap[x]? = some o ∧ o.isCells = true) : ¬ (B ≤ x ∧ ∃ o : Obj, W.heap[x]? = some o ∧ o.isCells = false) := by
  rintro ⟨_, o, ho, hc⟩
  obtain ⟨o', h1, h2⟩ := h
  rw [h1] at ho
  cases ho
  rw [hc] at h2
  cases h2
theorem row_cells {W : World} {B t e n : Nat} {v : Value} {xs : List Value} (h : W.ownsRow B t e v n xs) {x : Nat} (hx : v.ownBlock = some x) : ∃ o, W.heap[x]? = some o ∧ o.isCells = true := by
  rcases h.2 with ⟨hv, _⟩ | ⟨g', cap', cur, hv, _, hg, _⟩
  · rw [hv] at hx; cases hx
  · rw [hv] at hx; cases hx
    exact ⟨_, hg, rfl⟩
theorem DiskAt.row {b p g : Nat} {D : DS} {w : World} (h : DiskAt b p g D w) : (∃ o, w.heap[p]? = some o ∧ o.isCells = true) ∧ ∃ o, w.heap[g]? = some o ∧ o.isCells = true := by
  obtain ⟨_, cap, h1, h2⟩ := h
  exact ⟨⟨_, h1, rfl⟩, row_cells h2 rfl⟩
theorem JD.ch {S : Nat → Prop} {b q p g : Nat} {v : Value} {J : JS} {D : DS} {W W' : World} (h : JD b q p g v J D W) (hc : Ch S W W') (h1 : ¬ S q) (h2 : ¬ S p) (h3 : ¬ S g) (h4 : ∀ x, v.ownBlock = some x → ¬ S x) : JD b q p g v J D W' :=
  ⟨h.jour.ch hc h1 h4, h.disk.ch hc h2 h3, h.qp, h.qg, h.vo⟩
theorem JD.turn {B b q p g : Nat} {v : Value} {J : JS} {D : DS} {W W' : World} (h : JD b q p g v J D W) (ht : Turn (fun _ => False) B W W') : JD b q p g v J D W' :=
  h.ch (turn_ch ht) (cells_not ⟨_, h.jour.2.1, rfl⟩) (cells_not h.disk.row.1) (cells_not h.disk.row.2) (fun x hx => cells_not (row_cells h.jour.2.2 hx))
theorem boxed_turn {B : Nat} {x : Nat} {t : TypeId} {v : Value} {W W' : World} (h : Boxed W x t v) (ht : Turn (fun _ => False) B W W') : Boxed W' x t v := Boxed_ch h (turn_ch ht) (boxed_not h)
/-- What Open's walk carries. -/
structure OpS (w : World) (b p g q : Nat) (D : DS) (v : Value) (l : List ByteArray) (e : Nat) (t : ByteArray) (W : World) : Prop where
  jd : JD b q p g v ⟨l, e, false⟩ D W
  j : Boxed W (q + 1) 24 (.pointer (some ⟨q, 0, none⟩))
  t : Boxed W (q + 1 + 1) 9 (.string t)
  below : Below w.heap.size w W
  fresh : ∀ x, v.ownBlock = some x → w.heap.size ≤ x ∧ x ≠ q + 1 ∧ x ≠ q + 1 + 1
  hq : w.heap.size ≤ q
  hp : p < w.heap.size ∧ g < w.heap.size
section
variable {w : World} {b p g q : Nat} {D : DS} {v : Value} {l : List ByteArray} {e : Nat} {t : ByteArray} {W W' : World}
theorem OpS.ch {S : Nat → Prop} (h : OpS w b p g q D v l e t W) (hc : Ch S W W') (h1 : ¬ S q) (h2 : ¬ S p) (h3 : ¬ S g) (h4 : ∀ x, v.ownBlock = some x → ¬ S x) (h5 : ¬ S (q + 1)) (h6 : ¬ S (q + 1 + 1)) (hS : ∀ i, S i → w.heap.size ≤ i) : OpS w b p g q D v l e t W' :=
  ⟨h.jd.ch hc h1 h2 h3 h4, Boxed_ch h.j hc h5, Boxed_ch h.t hc h6, hc.below h.below (Nat.le_refl _) hS, h.fresh, h.hq, h.hp⟩
theorem OpS.step (h : OpS w b p g q D v l e t W) (hb : Below W.heap.size W W') : OpS w b p g q D v l e t W' := h.ch (S := fun _ => False) (Ch.of_new hb) id id id (fun _ _ h => h) id id (fun _ h => h.elim)
theorem OpS.turn {B : Nat} (h : OpS w b p g q D v l e t W) (hB : w.heap.size ≤ B) (ht : Turn (fun _ => False) B W W') : OpS w b p g q D v l e t W' :=
  h.ch (turn_ch ht) (cells_not ⟨_, h.jd.jour.2.1, rfl⟩) (cells_not h.jd.disk.row.1) (cells_not h.jd.disk.row.2) (fun x hx => cells_not (row_cells h.jd.jour.2.2 hx)) (boxed_not h.j) (boxed_not h.t) (fun i hi => Nat.le_trans hB hi.1)
/-- The text is set. -/
theorem OpS.text (h : OpS w b p g q D v l e t W) (t' : ByteArray) : OpS w b p g q D v l e t' (W.setCell ⟨q + 1 + 1, 0, none⟩ (.string t')) := by
  have hc : Ch (fun i => i = q + 1 + 1) W (W.setCell ⟨q + 1 + 1, 0, none⟩ (.string t')) := (Ch.refl (fun i => i = q + 1 + 1) W).set ⟨q + 1 + 1, 0, none⟩ rfl _
  have h1 := h.hq
  have h2 := h.hp
  exact ⟨h.jd.ch hc (by omega) (by omega) (by omega) (fun x hx => (h.fresh x hx).2.2), Boxed_ch h.j hc (by omega), h.t.set _, hc.below h.below (Nat.le_refl _) (by omega), h.fresh, h.hq, h.hp⟩
theorem OpS.cells (h : OpS w b p g q D v l e t W) : W.cell? ⟨q + 1, 0, none⟩ = some (.pointer (some ⟨q, 0, none⟩)) ∧ W.cell? ⟨q + 1 + 1, 0, none⟩ = some (.string t) ∧ W.frozen? ⟨q + 1 + 1, 0, none⟩ = false ∧ W.cell? ⟨q, 1, none⟩ = some v ∧ (∀ k, W.frozen? ⟨q, k, none⟩ = false) ∧ W.cell? ⟨q, 2, none⟩ = some (.int .i64 (e : Int)) :=
  ⟨h.j.cell, h.t.cell, h.t.frozen, h.jd.jour.open.2.1, h.jd.jour.open.2.2.2.2, h.jd.jour.open.2.2.1⟩
/-- A transaction is appended. -/
theorem OpS.more (h : OpS w b p g q D v l e t W) {W1 W5 : World} {v1 : Value} {s : ByteArray} {n : Nat} (hb : Below W.heap.size W W1) (hg : W1.grownBy W5 v.ownBlock)
    (hown : W5.ownsRow b 9 1 v1 (l ++ [s]).length ((l ++ [s]).map Value.string)) (hat : v1.ownBlock = v.ownBlock ∨ v1.ownBlock = some W1.heap.size) :
    OpS w b p g q D v1 (l ++ [s]) n t ((W5.setCell ⟨q, 1, none⟩ v1).setCell ⟨q, 2, none⟩ (.int .i64 (n : Int))) := by
  obtain ⟨h1, _⟩ := h.jd.more (n := n) hb hg rfl hown hat
  have hc : Ch (fun i => v.ownBlock = some i) W W5 := (Ch.of_new hb).trans (grown_ch hg)
  have hc2 : Ch (fun i => v.ownBlock = some i ∨ i = q) W ((W5.setCell ⟨q, 1, none⟩ v1).setCell ⟨q, 2, none⟩ (.int .i64 (n : Int))) := ((hc.mono fun i _ e => .inl e).set ⟨q, 1, none⟩ (.inr rfl) _).set ⟨q, 2, none⟩ (.inr rfl) _
  have lj := h.j.lt
  have lt := h.t.lt
  refine ⟨h1, Boxed_ch h.j hc2 (by rintro (e | e); exact (h.fresh _ e).2.1 rfl; omega), Boxed_ch h.t hc2 (by rintro (e | e); exact (h.fresh _ e).2.2 rfl; omega), hc2.below h.below (Nat.le_refl _) ?_, fun x hx => ?_, h.hq, h.hp⟩
  · rintro i (e | e)
    · exact (h.fresh i e).1
    · rw [e]; exact h.hq
  · rcases hat with e | e
    · exact h.fresh x (e.symm.trans hx)
    · rw [e] at hx
      cases hx
      have := hb.size
      have := h.hq
      omega
/-- A transaction is appended: the row alone. -/
theorem OpS.app (h : OpS w b p g q D v l e t W) {W1 W5 : World} {v1 : Value} {s : ByteArray} (hb : Below W.heap.size W W1) (hg : W1.grownBy W5 v.ownBlock)
    (hown : W5.ownsRow b 9 1 v1 (l ++ [s]).length ((l ++ [s]).map Value.string)) (hat : v1.ownBlock = v.ownBlock ∨ v1.ownBlock = some W1.heap.size) :
    OpS w b p g q D v1 (l ++ [s]) e t (W5.setCell ⟨q, 1, none⟩ v1) := by
  obtain ⟨h1, h2, h3⟩ := h.jd.grown hb hg
  have hc : Ch (fun i => v.ownBlock = some i) W W5 := (Ch.of_new hb).trans (grown_ch hg)
  have hc2 : Ch (fun i => v.ownBlock = some i ∨ i = q) W (W5.setCell ⟨q, 1, none⟩ v1) := (hc.mono fun i _ e => .inl e).set ⟨q, 1, none⟩ (.inr rfl) _
  have hcq : Ch (fun i => i = q) W5 (W5.setCell ⟨q, 1, none⟩ v1) := (Ch.refl (fun i => i = q) W5).set ⟨q, 1, none⟩ rfl v1
  have lj := h.j.lt
  have lt := h.t.lt
  have hq := h.hq
  have hp := h.hp
  have fr : ∀ x, v1.ownBlock = some x → w.heap.size ≤ x ∧ x ≠ q ∧ x ≠ q + 1 ∧ x ≠ q + 1 + 1 := fun x hx => by
    rcases hat with e | e
    · have := h.fresh x (e.symm.trans hx)
      have := (h.jd.vo x (e.symm.trans hx)).1
      omega
    · rw [e] at hx
      cases hx
      have := hb.size
      omega
  refine ⟨⟨⟨h.jd.jour.1, ?_, ?_⟩, h2.ch hcq (by omega) (by omega), h.jd.qp, h.jd.qg, fun x hx => ?_⟩, Boxed_ch h.j hc2 (by rintro (e | e); exact (h.fresh _ e).2.1 rfl; omega), Boxed_ch h.t hc2 (by rintro (e | e); exact (h.fresh _ e).2.2 rfl; omega), hc2.below h.below (Nat.le_refl _) ?_, fun x hx => ⟨(fr x hx).1, (fr x hx).2.2⟩, h.hq, h.hp⟩
  · rw [Go.Joins.block_setCell h1]
    rfl
  · exact ownsRow_setCell_other hown (fun e => (fr q e).2.1 rfl) _
  · have := fr x hx
    omega
  · rintro i (e | e)
    · exact (h.fresh i e).1
    · rw [e]; exact h.hq
/-- The end is set. -/
theorem OpS.setE (h : OpS w b p g q D v l e t W) {z : Int} (n : Nat) (hz : z = (n : Int)) : OpS w b p g q D v l n t (W.setCell ⟨q, 2, none⟩ (.int .i64 z)) := by
  subst hz
  have hcq : Ch (fun i => i = q) W (W.setCell ⟨q, 2, none⟩ (.int .i64 (n : Int))) := (Ch.refl (fun i => i = q) W).set ⟨q, 2, none⟩ rfl _
  have hq := h.hq
  have hp := h.hp
  refine ⟨⟨⟨h.jd.jour.1, ?_, ?_⟩, h.jd.disk.ch hcq (by omega) (by omega), h.jd.qp, h.jd.qg, h.jd.vo⟩, Boxed_ch h.j hcq (by omega), Boxed_ch h.t hcq (by omega), hcq.below h.below (Nat.le_refl _) (by omega), h.fresh, h.hq, h.hp⟩
  · rw [Go.Joins.block_setCell h.jd.jour.2.1]
    rfl
  · exact ownsRow_setCell_other h.jd.jour.2.2 (fun e => (h.jd.vo q e).1 rfl) _
/-- What the loads see behind the append. -/
theorem OpS.grown (h : OpS w b p g q D v l e t W) {W1 W5 : World} (hb : Below W.heap.size W W1) (hg : W1.grownBy W5 v.ownBlock) :
    W5.cell? ⟨q + 1, 0, none⟩ = some (.pointer (some ⟨q, 0, none⟩)) ∧ W5.cell? ⟨q + 1 + 1, 0, none⟩ = some (.string t) ∧ W5.cell? ⟨q, 1, none⟩ = some v ∧ W5.frozen? ⟨q, 1, none⟩ = false := by
  have hc : Ch (fun i => v.ownBlock = some i) W W5 := (Ch.of_new hb).trans (grown_ch hg)
  have h1 := (h.jd.grown hb hg).1
  exact ⟨(Boxed_ch h.j hc (fun e => (h.fresh _ e).2.1 rfl)).cell, (Boxed_ch h.t hc (fun e => (h.fresh _ e).2.2 rfl)).cell, (Lib.cell_of_heap h1 1).trans rfl, Lib.frozen_of_heap h1 1⟩
end
/-- What a round keeps for the loop around it. -/
structure Kps (B q : Nat) (A C : World) : Prop where
  from_ : KeepsFrom B A C
  keep : KeepB q A C
theorem Kps.refl (B q : Nat) (A : World) : Kps B q A A := ⟨KeepsFrom.refl _ _, fun _ ho => ho⟩
theorem Kps.trans {B q : Nat} {A C E : World} (h : Kps B q A C) (k : Kps B q C E) : Kps B q A E := ⟨h.from_.trans k.from_, h.keep.trans k.keep⟩
theorem Kps.new {B q : Nat} {A C : World} (h : Below A.heap.size A C) : Kps B q A C := ⟨⟨h.size, fun k o _ hk _ => (h.block k (Array.getElem?_eq_some_iff.1 hk).1).trans hk⟩, KeepB.new h⟩
theorem Kps.set {B q : Nat} (W : World) (x k : Nat) (v : Value) (hx : q ≠ x) : Kps B q W (W.setCell ⟨x, k, none⟩ v) := ⟨(KeepsOthers.setCell _ _ _).from _, fun o ho => (Below.heap_setCell _ _ _ _ hx).trans ho⟩
theorem Kps.alloc {B q : Nat} (W : World) (o : Obj) : Kps B q W (W.alloc o) := Kps.new ((Below.refl _ W).alloc (Nat.le_refl _) _)
theorem Kps.drew {B q : Nat} (W : World) : Kps B q W W.drew := Kps.new (bdrew (Below.refl _ W))
theorem Kps.grown {B q : Nat} {W W' : World} {row : Option Nat} (hg : W.grownBy W' row) (hq : row ≠ some q) (hr : ∀ x, row = some x → ∃ o, W.heap[x]? = some o ∧ o.isCells = true) : Kps B q W W' := by
  refine ⟨⟨hg.size, fun k o _ hk hc => ?_⟩, fun o ho => (hg.block q (Array.getElem?_eq_some_iff.1 ho).1 (fun e => hq e.symm)).trans ho⟩
  refine (hg.block k (Array.getElem?_eq_some_iff.1 hk).1 (fun e => ?_)).trans hk
  obtain ⟨o', h1, h2⟩ := hr k e.symm
  rw [h1] at hk
  cases hk
  rw [hc] at h2
  cases h2
end Go.Proofs.Ytpnnnhdhmdildaa.Given
