/- append(v, ys...) at a step of a region that draws its order; rows of strings. -/
import Derived.Test.YtpnnnhdhmdildaaWWords
import Derived.Test.YtpnnnhdhmdildaaWMore
import Derived.OwnWalk
import Derived.Maps.AppendAt
import Derived.Deep.RegionLaw
import Derived.Deep.AppendLies
import Derived.Laws.OwnMore
import Derived.RangeFuncBox
import Derived.Lib.Builder
set_option linter.unusedVariables false
set_option linter.unusedSimpArgs false
namespace Go.Proofs.Ytpnnnhdhmdildaa.Given
open Go.RowKit Go.Proofs.YtpnnnhdhmdildaaW.PrintWords
/-- A row of strings that is read. -/
def RdS (W : World) (A : Option Addr) (m : Nat) (ys : List ByteArray) : Prop :=
  ys.length = m ∧ (0 < m → ∃ ad, A = some ad ∧ ∀ j, j < m → W.cell? (ad.add j) = some (.string (ys.getD j ⟨#[]⟩)))
theorem RdS.below {W W' : World} {A : Option Addr} {m : Nat} {ys : List ByteArray} (h : RdS W A m ys) (hb : Below W.heap.size W W') : RdS W' A m ys :=
  ⟨h.1, fun hm => by obtain ⟨ad, e, hc⟩ := h.2 hm; exact ⟨ad, e, fun j hj => pw_cell_below hb (hc j hj)⟩⟩
theorem RdS.one {W : World} {b : Nat} {x : ByteArray} (h : W.heap[b]? = some (.cells #[.string x] 9 (0, 0))) : RdS W (some ⟨b, 0, none⟩) 1 [x] :=
  ⟨rfl, fun _ => ⟨_, rfl, fun j hj => by obtain rfl : j = 0 := (by omega); exact (Lib.cell_of_heap h 0).trans rfl⟩⟩
theorem run_app {P : Program} {W : World} (base : Nat) (t ty : TypeId) (i0 : TypeInfo) (ht : P.underlying t = some (.slice 9)) (hi : P.info? 9 = some i0) (hz0 : i0.zero = some (.string ⟨#[]⟩)) (hz1 : i0.size = 1) (hz2 : i0.bytes = 16)
    (v : Value) (xs ys : List ByteArray) (A : Option Addr) (m c : Nat) (HO : W.ownsRow base 9 1 v xs.length (xs.map Value.string)) (HR : RdS W A m ys) (hbase : base ≤ W.heap.size) (hl : xs.length + m ≤ 100000) :
    ∃ v1 w1, (Builtin.append_ #[t, t] ty #[v, .slice A m c]).run P W = .ok v1 w1 ∧ w1.ownsRow base 9 1 v1 (xs ++ ys).length ((xs ++ ys).map Value.string) ∧ W.grownBy w1 v.ownBlock ∧ (v1.ownBlock = v.ownBlock ∨ v1.ownBlock = some W.heap.size) := by
  have hm : ys.length = m := HR.1
  rcases Nat.eq_zero_or_pos m with h0 | h0
  · subst h0
    obtain rfl : ys = [] := List.eq_nil_of_length_eq_zero hm
    refine ⟨v, W, ?_, by simpa using HO, World.grownBy.refl W _, .inl rfl⟩
    rcases HO.2 with ⟨rfl, hn⟩ | ⟨g, cap, cur, rfl, _, _, hnc, _⟩
    · rcases A with _ | ad
      · simp [Builtin.append_, run_underlying ht, sizeOf, typeInfo, hi, Builtin.lenOf, Builtin.firstCells]
      · simp [Builtin.append_, run_underlying ht, sizeOf, typeInfo, hi, Builtin.lenOf, Builtin.firstCells, loadCells, loadCellsFrom, storeCells]
    · rcases A with _ | ad
      · simp [Builtin.append_, run_underlying ht, sizeOf, typeInfo, hi, Builtin.lenOf, Builtin.firstCells, hnc, storeCells]
      · simp [Builtin.append_, run_underlying ht, sizeOf, typeInfo, hi, Builtin.lenOf, Builtin.firstCells, hnc, loadCells, loadCellsFrom, storeCells]
  · obtain ⟨ad, rfl, hc⟩ := HR.2 h0
    have hcells : ∀ j u, (ys.map Value.string)[j]? = some u → W.cell? (ad.add j) = some u := by
      intro j u hu
      rw [List.getElem?_map] at hu
      obtain ⟨x, hx, rfl⟩ := Option.map_eq_some_iff.1 hu
      have hj := (List.getElem?_eq_some_iff.1 hx).1
      rw [hc j (by omega), List.getD_eq_getElem?_getD, hx]
      rfl
    obtain ⟨v1, w1, hr, h2, h3, _, h5⟩ := run_append_own_at (P := P) W base t ty 9 i0 (.string ⟨#[]⟩) 1 16 ht hi hz0 hz1 hz2 rfl (by omega) v xs.length (xs.map Value.string) HO ad m c (ys.map Value.string) (by simp [hm]) hcells
      (by intro u hu; obtain ⟨q, _, rfl⟩ := List.mem_map.1 hu; rfl) (by simp only [maxLen]; omega) (by omega) hbase
    exact ⟨v1, w1, hr, by simpa [hm] using h2, h3, h5⟩
/-! ### append(append(append([]string{}, l[:p]...), x), l[p:]...): the worlds of its orders -/
def litE : Obj := .cells #[] 9
theorem own_o1 (W : World) : (W.alloc (.cells #[] 9)).ownsRow W.heap.size 9 1 (.slice (some ⟨W.heap.size, 0, none⟩) 0 0) ([] : List ByteArray).length (([] : List ByteArray).map Value.string) :=
  World.ownsRow_lit (base := W.heap.size) (e := 9) (size := 1) W #[] 0 (Nat.le_refl _) (by unfold maxLen; omega) rfl
theorem own_o2 (W : World) (o : Obj) : ((W.alloc (.cells #[] 9)).alloc o).ownsRow W.heap.size 9 1 (.slice (some ⟨W.heap.size, 0, none⟩) 0 0) ([] : List ByteArray).length (([] : List ByteArray).map Value.string) := (own_o1 W).alloc o
theorem own_o3 (W : World) (o : Obj) : ((W.alloc o).alloc (.cells #[] 9)).ownsRow W.heap.size 9 1 (.slice (some ⟨W.heap.size + 1, 0, none⟩) 0 0) ([] : List ByteArray).length (([] : List ByteArray).map Value.string) := by
  have h := World.ownsRow_lit (base := W.heap.size) (e := 9) (size := 1) (W.alloc o) #[] 0 (by simp) (by unfold maxLen; omega) rfl
  rw [World.size_alloc] at h
  exact h
/-- What holds behind an append of these. -/
structure ST (W0 : World) (v : Value) (xs : List ByteArray) (W : World) : Prop where
  own : W.ownsRow W0.heap.size 9 1 v xs.length (xs.map Value.string)
  below : Below W0.heap.size W0 W
theorem ST.size {W0 : World} {v : Value} {xs : List ByteArray} {W : World} (h : ST W0 v xs W) : W0.heap.size ≤ W.heap.size := h.below.size
theorem ST.next {W0 : World} {v v1 : Value} {xs ys : List ByteArray} {W w1 : World} (h : ST W0 v xs W) (ho : w1.ownsRow W0.heap.size 9 1 v1 (xs ++ ys).length ((xs ++ ys).map Value.string)) (hg : W.grownBy w1 v.ownBlock) : ST W0 v1 (xs ++ ys) w1 :=
  ⟨ho, h.below.grown hg h.size (own_base h.own)⟩
theorem ST.alloc {W0 : World} {v : Value} {xs : List ByteArray} {W : World} (h : ST W0 v xs W) (o : Obj) : ST W0 v xs (W.alloc o) := ⟨h.own.alloc o, h.below.alloc h.size o⟩
theorem ST.drew {W0 : World} {v : Value} {xs : List ByteArray} {W : World} (h : ST W0 v xs W) : ST W0 v xs W.drew := ⟨h.own, below_drew h.below⟩
theorem st_o1 (W : World) : ST W (.slice (some ⟨W.heap.size, 0, none⟩) 0 0) [] (W.alloc (.cells #[] 9)) := ⟨own_o1 W, (Below.refl _ W).alloc (Nat.le_refl _) _⟩
theorem st_o2 (W : World) (o : Obj) : ST W (.slice (some ⟨W.heap.size, 0, none⟩) 0 0) [] ((W.alloc (.cells #[] 9)).alloc o) := (st_o1 W).alloc o
theorem st_o3 (W : World) (o : Obj) : ST W (.slice (some ⟨W.heap.size + 1, 0, none⟩) 0 0) [] ((W.alloc o).alloc (.cells #[] 9)) := ⟨own_o3 W o, ((Below.refl _ W).alloc (Nat.le_refl _) _).alloc (by simp) _⟩
theorem ST.reads {W0 : World} {v : Value} {xs ys : List ByteArray} {W : World} {A : Option Addr} {m : Nat} (h : ST W0 v xs W) (hr : RdS W0 A m ys) : RdS W A m ys := hr.below h.below
/-- The one that was laid beside stays. -/
theorem lx_o2 (W0 : World) (x : ByteArray) {v1 : Value} {w1 : World} {zs : List ByteArray} (ho : w1.ownsRow W0.heap.size 9 1 v1 zs.length (zs.map Value.string)) (hg : ((W0.alloc (.cells #[] 9)).alloc (.cells #[.string x] 9)).drew.grownBy w1 (Value.slice (some ⟨W0.heap.size, 0, none⟩) 0 0).ownBlock) :
    w1.heap[W0.heap.size + 1]? = some (.cells #[.string x] 9 (0, 0)) := by
  have e := World.alloc_heap_new (W0.alloc (.cells #[] 9)) (.cells #[.string x] 9)
  rw [World.size_alloc] at e
  exact (hg.block (W0.heap.size + 1) (by show _ < ((W0.alloc _).alloc _).heap.size; simp) (by simp [Value.ownBlock])).trans e
theorem lx_o3 (W0 : World) (x : ByteArray) {v1 : Value} {w1 : World} {zs : List ByteArray} (ho : w1.ownsRow W0.heap.size 9 1 v1 zs.length (zs.map Value.string)) (hg : ((W0.alloc (.cells #[.string x] 9)).alloc (.cells #[] 9)).drew.grownBy w1 (Value.slice (some ⟨W0.heap.size + 1, 0, none⟩) 0 0).ownBlock) :
    w1.heap[W0.heap.size]? = some (.cells #[.string x] 9 (0, 0)) := by
  have e := World.alloc_heap_new W0 (.cells #[.string x] 9)
  exact (hg.block W0.heap.size (by show _ < ((W0.alloc _).alloc _).heap.size; simp; omega) (by simp [Value.ownBlock])).trans ((Below.heap_alloc (W0.alloc (.cells #[.string x] 9)) _ W0.heap.size (by simp)).trans e)
section
variable {P : Program} {ops : Array Oper} {o : Oper} {a : Act} {K : Act → World → Prop} {Q : Exit → Act → World → Prop} {E : Prop}
theorem step_app {W : World} (base : Nat) (hgd : o.guard = none) (s x : Operand) (t : TypeId) (i0 : TypeInfo) (ho : o.op = .call { callee := .builtin .append, args := #[s, x], argTypes := #[t, t] })
    (ht : P.underlying t = some (.slice 9)) (hi : P.info? 9 = some i0) (hz0 : i0.zero = some (.string ⟨#[]⟩)) (hz1 : i0.size = 1) (hz2 : i0.bytes = 16)
    (v : Value) (xs ys : List ByteArray) (A : Option Addr) (m c : Nat) (hs : a.eval s = v) (hx : a.eval x = .slice A m c) (HO : W.ownsRow base 9 1 v xs.length (xs.map Value.string)) (HR : RdS W A m ys) (hbase : base ≤ W.heap.size) (hl : xs.length + m ≤ 100000)
    (h : ∀ v1 w1, w1.ownsRow base 9 1 v1 (xs ++ ys).length ((xs ++ ys).map Value.string) → W.grownBy w1 v.ownBlock → (v1.ownBlock = v.ownBlock ∨ v1.ownBlock = some W.heap.size) → K (a.put o.dst v1) w1) :
    if Region.wanted o (yielded ops a.tmps) = true then Oper.wp P o a W K Q else E := by
  have hw : Region.wanted o (yielded ops a.tmps) = true := by simp [Region.wanted, hgd]
  rw [if_pos hw]
  obtain ⟨v1, w1, hr, hown, hg, hat⟩ := run_app (P := P) base t o.type i0 ht hi hz0 hz1 hz2 v xs ys A m c HO HR hbase hl
  unfold Oper.wp execOp
  simp only [ho, resolve, invoke, builtin, Sem.run_bind, Sem.run_pure, Result.andThen_ok, List.map_toArray, List.map_cons, List.map_nil, hs, hx, hr]
  exact h v1 w1 hown hg hat
end
end Go.Proofs.Ytpnnnhdhmdildaa.Given
