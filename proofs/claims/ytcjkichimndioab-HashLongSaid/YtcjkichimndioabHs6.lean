/- Rows of bytes that may have been a string's: what append makes of them. -/
import Derived.Test.YtcjkichimndioabHs4
import Derived.Lib.ConvBytes
import Derived.ArgAppend
import Derived.Lib.SmallJoins
set_option linter.unusedSimpArgs false
set_option linter.unusedVariables false
set_option linter.unnecessarySimpa false
namespace Go.Proofs.Ytcjkichimndioab.Given
open Go.RowKit Go.Proofs.YtcjkichimndioabW.PrintWords
/-- A slice that lies at a block's head, the block at or beyond B, and reads as these bytes; its spare room may be written. -/
def Rw (W : World) (B : Nat) (v : Value) (xs : List Int) : Prop :=
  ∃ g c cur fr, v = .slice (some ⟨g, 0, none⟩) xs.length c ∧ B ≤ g ∧ W.heap[g]? = some (.cells cur 5 fr) ∧ (fr = (0, 0) ∨ c ≤ fr.1) ∧ cur.size = c ∧ xs.length ≤ c ∧ c ≤ maxLen ∧ cur.toList.take xs.length = nums .u8 xs
theorem cell_any {w : World} {g : Nat} {t : TypeId} {cs : Array Value} {fr : Nat × Nat} (h : w.heap[g]? = some (.cells cs t fr)) (i : Nat) : w.cell? ⟨g, i, none⟩ = cs[i]? := cell_of_row w g i cs t fr h
theorem Rw.cells {W : World} {g c : Nat} {cur : Array Value} {fr : Nat × Nat} {xs : List Int} (h : W.heap[g]? = some (.cells cur 5 fr)) (ht : cur.toList.take xs.length = nums .u8 xs) (j : Nat) (hj : j < xs.length) : W.cell? ⟨g, j, none⟩ = some (.int .u8 (xs.getD j 0)) := by
  rw [cell_any h j]
  have e : (cur.toList.take xs.length)[j]? = some (.int .u8 (xs.getD j 0)) := by
    rw [ht]
    simp [nums, hj, List.getD_eq_getElem?_getD]
  rw [List.getElem?_take_of_lt hj] at e
  simpa using e
theorem Rw.below {w0 w1 : World} {B : Nat} {v : Value} {xs : List Int} (h : Rw w0 B v xs) (hb : Below w0.heap.size w0 w1) : Rw w1 B v xs := by
  obtain ⟨g, c, cur, fr, rfl, hB, hg, hf, hs, hl, hm, ht⟩ := h
  exact ⟨g, c, cur, fr, rfl, hB, (hb.block g (blk_lt hg)).trans hg, hf, hs, hl, hm, ht⟩
theorem Rw.frozen {W : World} {g c : Nat} {cur : Array Value} {fr : Nat × Nat} (h : W.heap[g]? = some (.cells cur 5 fr)) (hf : fr = (0, 0) ∨ c ≤ fr.1) (i : Nat) (hi : i < c) : W.frozen? ⟨g, i, none⟩ = false := by
  obtain ⟨f1, f2⟩ := fr
  rcases hf with hf | hf
  · simp only [Prod.mk.injEq] at hf
    obtain ⟨rfl, rfl⟩ := hf
    simp [World.frozen?, h]
  · simp only at hf
    simp [World.frozen?, h]
    omega
theorem below_bytes {w0 w : World} {B : Nat} (h : Below B w0 w) (hB : B ≤ w.heap.size) (s : ByteArray) : Below B w0 (Lib.bytesWorld w 5 s) :=
  h.trans ⟨rfl, rfl, rfl, by rw [Lib.bytesWorld_size]; omega, fun k hk => Lib.bytesWorld_at_old w 5 s k (by omega)⟩
theorem Rw.bytes (w : World) (B : Nat) (hB : B ≤ w.heap.size) (s : ByteArray) (hs : s.size ≤ 2000000) : Rw (Lib.bytesWorld w 5 s) B (.slice (some ⟨w.heap.size, 0, none⟩) s.size (grownCap w s.size 0 5)) (sbytes s) := by
  have hge := grownCap_ge w s.size 0 5
  have hle := grownCap_le_maxLen w s.size 0 5 (by simp [maxLen]; omega)
  have hsz : (Lib.bytesCells w 5 s).size = grownCap w s.size 0 5 := by
    have e : s.data.size = s.size := rfl
    simp [Lib.bytesCells, e]
    omega
  refine ⟨w.heap.size, _, Lib.bytesCells w 5 s, _, by rw [sbytes_len], hB, Lib.bytesWorld_at_new w 5 s, .inr (by rw [hsz]; exact Nat.le_refl _), hsz, by rw [sbytes_len]; exact hge, hle, ?_⟩
  have e : s.data.size = s.size := rfl
  rw [sbytes_len]
  simp only [Lib.bytesCells, Array.toList_append, Array.toList_map]
  rw [List.take_append_of_le_length (by simp [e]), List.take_of_length_le (by simp [e])]
  simp [nums, sbytes]
section
variable {P : Program} {ops : Array Oper} {rest : List Oper} {o : Oper} {a : Act} {Q : Exit → Act → World → Prop}
theorem Rw.append {w0 W : World} (B : Nat) (hgd : o.guard = none) (s x : Operand) (t : TypeId) (ho : o.op = .call { callee := .builtin .append, args := #[s, x], argTypes := #[t, t] })
    (ht : P.underlying t = some (.slice 5)) (i : TypeInfo) (h2 : P.info? 5 = some i) (h3 : i.zero = some (.int .u8 0)) (h4 : i.size = 1) (h5 : i.bytes = 1)
    (v : Value) (xs : List Int) (d : Int) (hs : a.eval s = v) (hx : a.eval x = .slice (some ⟨W.heap.size, 0, none⟩) 1 1) (HR : Rw W B v xs) (HB : Below B w0 W) (hBs : B ≤ W.heap.size) (hlen : xs.length ≤ 2000000)
    (h : ∀ v1 w1, Rw w1 B v1 (xs ++ [d]) → Below B w0 w1 → B ≤ w1.heap.size → wpList P ops Q rest (a.put o.dst v1) w1) : wpList P ops Q (o :: rest) a (W.alloc (.cells #[.int .u8 d] 5)) := by
  obtain ⟨g, c, cur, fr, rfl, hB, hg, hf, hsz, hl, hm, hT⟩ := HR
  have hg' : (W.alloc (.cells #[.int .u8 d] 5)).heap[g]? = some (.cells cur 5 fr) := blk_alloc hg _
  have hglt := blk_lt hg
  have hB' : Below B w0 (W.alloc (.cells #[.int .u8 d] 5)) := HB.alloc hBs _
  have hnew : (W.alloc (.cells #[.int .u8 d] 5)).heap[W.heap.size]? = some (.cells #[.int .u8 d] 5 (0, 0)) := blk_new _ _
  refine wpList_append_arg _ hgd s x t ho 5 i (.int .u8 0) 1 1 ht h2 h3 h4 h5 rfl (by decide) g 0 xs.length c (nums .u8 xs) hs (by simp [nums]) ?_ ⟨W.heap.size, 0, none⟩ 1 1 [.int .u8 d] hx rfl ?_ (by simp [Value.oneCell']) ?_ (by simp [maxLen]; omega) (by omega) ?_ ?_
  · intro j u hj
    have hjl : j < xs.length := by
      have := (List.getElem?_eq_some_iff.1 hj).1
      simpa [nums] using this
    rw [Nat.zero_add, Rw.cells (c := c) hg' hT j hjl]
    simp [nums, hjl, List.getD_eq_getElem?_getD] at hj ⊢
    exact hj
  · intro j u hj
    have hj0 : j = 0 := by
      have := (List.getElem?_eq_some_iff.1 hj).1
      simpa using this
    subst hj0
    simp at hj
    subst hj
    have := cell_any hnew 0
    rw [add_plain]
    simpa using this
  · intro hroom j hj
    have hj0 : j = 0 := by simpa using hj
    subst hj0
    refine ⟨?_, ?_⟩
    · rw [Nat.zero_add, Nat.mul_one, Nat.add_zero, cell_any hg', Array.getElem?_eq_getElem (by omega)]
      rfl
    · rw [Nat.zero_add, Nat.mul_one, Nat.add_zero]
      exact Rw.frozen hg' hf _ (by omega)
  · intro hroom
    rw [Nat.zero_add, Nat.mul_one]
    have e : (W.alloc (.cells #[.int .u8 d] 5)).setCells g xs.length [.int .u8 d] = (W.alloc (.cells #[.int .u8 d] 5)).setCell ⟨g, xs.length, none⟩ (.int .u8 d) := rfl
    rw [e]
    refine h _ _ ⟨g, c, cur.setIfInBounds xs.length (.int .u8 d), fr, by rw [List.length_append]; rfl, hB, ?_, hf, by simpa using hsz, by rw [List.length_append]; exact hroom, hm, ?_⟩ (hB'.setCell hB _) (by simp; omega)
    · exact Joins.block_setCell hg' (.int .u8 d)
    · rw [List.length_append, nums_append, ← hT]
      simp only [List.length_cons, List.length_nil, Array.toList_setIfInBounds]
      rw [List.take_add_one]
      have hlt : xs.length < cur.toList.length := by simp; omega
      rw [List.take_set_of_le (Nat.le_refl _)]
      have hset := List.getElem?_set_self (a := Value.int .u8 d) hlt
      simp [nums]
      exact hset
  · intro hfull v1 w1 hown hgr
    have hsz1 : W.heap.size + 1 ≤ w1.heap.size := by have := hgr.size; simpa using this
    have hbel : Below B w0 w1 := pw_below_grown hB' none (by simp; omega) hgr (by intro k hk; cases hk)
    rcases hown.2 with ⟨rfl, hz⟩ | ⟨g', cap, cur', rfl, hb, hh, k1, k2, k3, k4⟩
    · simp [nums] at hz
    · refine h _ _ ⟨g', cap, cur', (0, 0), by rw [List.length_append]; rfl, by simp at hb; omega, hh, .inl rfl, by simpa using k3, by rw [List.length_append]; exact k1, k2, ?_⟩ hbel (by omega)
      rw [List.length_append, nums_append]
      simpa [nums] using k4
end
end Go.Proofs.Ytcjkichimndioab.Given
