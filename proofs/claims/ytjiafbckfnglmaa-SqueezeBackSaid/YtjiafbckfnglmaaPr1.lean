/- A row of bytes that grows: a string's bytes, or another row's, appended. -/
import Derived.Test.YtjiafbckfnglmaaWWords
import Derived.Test.YtjiafbckfnglmaaWLast
import Derived.Test.YtjiafbckfnglmaaWMore
import Derived.Lib.ConvBytes
import Derived.Lib.AppendStr
import Derived.ArgAppend
import Derived.Laws.BytesString
import Derived.Laws.IdiomStrings
import Derived.Lib.SmallJoins
import Derived.Below
import Derived.WalkKit
set_option linter.unusedSimpArgs false
set_option linter.unusedVariables false
namespace Go.Proofs.Ytjiafbckfnglmaa.Given
open Go.RowKit Go.Proofs.YtjiafbckfnglmaaW.PrintWords Go.Lib
/-- At a block's head lie these bytes; there is room for c, and it may be written. -/
def RowS (W : World) (g c : Nat) (s : ByteArray) : Prop :=
  ∃ cur fr, W.heap[g]? = some (.cells cur 5 fr) ∧ (fr = (0, 0) ∨ c ≤ fr.1) ∧ cur.size = c ∧ s.size ≤ c ∧ c ≤ maxLen ∧ cur.toList.take s.size = strCells s
theorem strCells_app (s p : ByteArray) : strCells (s ++ p) = strCells s ++ strCells p := by simp [strCells, ByteArray.data_append]
theorem strCells_nums (xs : List Int) (h : ∀ x ∈ xs, 0 ≤ x ∧ x < 256) : strCells (strOfNums xs) = xs.map (Value.int .u8) := by
  simp only [strCells, strOfNums, List.map_map]
  apply List.map_congr_left
  intro x hx
  obtain ⟨h0, h1⟩ := h x hx
  simp only [Function.comp]
  congr 1
  simp
  omega
theorem RowS.lt {W : World} {g c : Nat} {s : ByteArray} (h : RowS W g c s) : g < W.heap.size := by
  obtain ⟨cur, fr, hg, _⟩ := h
  exact (Array.getElem?_eq_some_iff.1 hg).1
theorem RowS.grown {W W' : World} {g c : Nat} {s : ByteArray} {row : Option Nat} (h : RowS W g c s) (hg : W.grownBy W' row) (hr : some g ≠ row) : RowS W' g c s := by
  have hl := h.lt
  obtain ⟨cur, fr, h1, h2⟩ := h
  exact ⟨cur, fr, (hg.block g hl hr).trans h1, h2⟩
theorem rs_cell_any {w : World} {g : Nat} {t : TypeId} {cs : Array Value} {fr : Nat × Nat} (h : w.heap[g]? = some (.cells cs t fr)) (i : Nat) : w.cell? ⟨g, i, none⟩ = cs[i]? := cell_of_row w g i cs t fr h
theorem RowS.cells {W : World} {g c : Nat} {s : ByteArray} (h : RowS W g c s) (j : Nat) (v : Value) (hj : (strCells s)[j]? = some v) : W.cell? ⟨g, j, none⟩ = some v := by
  obtain ⟨cur, fr, hg, hf, hs, hl, hm, ht⟩ := h
  have hj' : j < s.size := by
    have := (List.getElem?_eq_some_iff.1 hj).1
    rwa [strCells_length] at this
  rw [← ht, List.getElem?_take_of_lt hj'] at hj
  rw [rs_cell_any hg]
  simpa using hj
theorem rs_frozen {W : World} {g c : Nat} {cur : Array Value} {fr : Nat × Nat} (h : W.heap[g]? = some (.cells cur 5 fr)) (hf : fr = (0, 0) ∨ c ≤ fr.1) (i : Nat) (hi : i < c) : W.frozen? ⟨g, i, none⟩ = false := by
  obtain ⟨f1, f2⟩ := fr
  rcases hf with hf | hf
  · simp only [Prod.mk.injEq] at hf
    obtain ⟨rfl, rfl⟩ := hf
    simp [World.frozen?, h]
  · simp only at hf
    simp [World.frozen?, h]
    omega
theorem block_setCells {g t : Nat} {fr : Nat × Nat} : ∀ (news : List Value) (off : Nat) (cur : Array Value) (w : World), w.heap[g]? = some (.cells cur t fr) → off + news.length ≤ cur.size →
    ∃ cur', (w.setCells g off news).heap[g]? = some (.cells cur' t fr) ∧ cur'.size = cur.size ∧ cur'.toList.take (off + news.length) = cur.toList.take off ++ news ∧ w.grownBy (w.setCells g off news) (some g)
  | [], off, cur, w, h, _ => ⟨cur, h, rfl, by simp, ⟨rfl, rfl, rfl, Nat.le_refl _, fun _ _ _ => rfl⟩⟩
  | v :: r, off, cur, w, h, hl => by
    have hl' : off + 1 + r.length ≤ cur.size := by simp at hl; omega
    obtain ⟨cur', h1, h2, h3, h4⟩ := block_setCells r (off + 1) (cur.setIfInBounds off v) (w.setCell ⟨g, off, none⟩ v) (Joins.block_setCell h v) (by simpa using hl')
    refine ⟨cur', h1, by simpa using h2, ?_, ?_⟩
    · have e : off + (v :: r).length = off + 1 + r.length := by simp; omega
      rw [e, h3]
      simp only [Array.toList_setIfInBounds]
      have hlt : off < cur.toList.length := by simp; omega
      rw [List.take_add_one, List.take_set_of_le (Nat.le_refl _), List.getElem?_set_self hlt]
      simp
    · have hg1 : w.grownBy (w.setCell ⟨g, off, none⟩ v) (some g) := ⟨rfl, rfl, rfl, by simp, fun k hk hne => by
        rw [setCell_eq_setRow w g off cur t fr v h]
        exact setRow_other w g k _ (fun e => hne (by rw [e]))⟩
      exact ⟨h4.os.trans hg1.os, h4.tape.trans hg1.tape, h4.output.trans hg1.output, Nat.le_trans hg1.size h4.size, fun k hk hne => (h4.block k (Nat.lt_of_lt_of_le hk hg1.size) hne).trans (hg1.block k hk hne)⟩
theorem RowS.room {W : World} {g c : Nat} {s : ByteArray} (h : RowS W g c s) (p : ByteArray) (hr : s.size + p.size ≤ c) : RowS (W.setCells g s.size (strCells p)) g c (s ++ p) ∧ W.grownBy (W.setCells g s.size (strCells p)) (some g) := by
  obtain ⟨cur, fr, hg, hf, hs, hl, hm, ht⟩ := h
  obtain ⟨cur', h1, h2, h3, h4⟩ := block_setCells (strCells p) s.size cur W hg (by rw [strCells_length]; omega)
  refine ⟨⟨cur', fr, h1, hf, by omega, by rw [ByteArray.size_append]; exact hr, hm, ?_⟩, h4⟩
  rw [ByteArray.size_append, strCells_app, ← ht]
  rw [strCells_length] at h3
  exact h3
section
variable {P : Program} {ops : Array Oper} {rest : List Oper} {o : Oper} {a : Act} {Q : Exit → Act → World → Prop}
/-- 'append(b, s...)' of a string, or of a slice of bytes that lies elsewhere. -/
theorem append_str {W : World} (hgd : o.guard = none) (sl x : Operand) (t u : TypeId) (ho : o.op = .call { callee := .builtin .append, args := #[sl, x], argTypes := #[t, u] })
    (ht : P.underlying t = some (.slice 5)) (hu : P.underlying u = some .string) (i : TypeInfo) (h2 : P.info? 5 = some i) (h3 : i.zero = some (.int .u8 0)) (h4 : i.size = 1) (h5 : i.bytes = 1)
    (g c : Nat) (s p : ByteArray) (hs : a.eval sl = .slice (some ⟨g, 0, none⟩) s.size c) (hx : a.eval x = .string p) (HR : RowS W g c s) (hlen : s.size + p.size ≤ 2000000)
    (h : ∀ g' c' w1, RowS w1 g' c' (s ++ p) → W.grownBy w1 (some g) → (g' = g ∨ W.heap.size ≤ g') → wpList P ops Q rest (a.put o.dst (.slice (some ⟨g', 0, none⟩) (s.size + p.size) c')) w1) : wpList P ops Q (o :: rest) a W := by
  refine wpList_plain hgd fun K hK => ?_
  have HR' := HR
  obtain ⟨cur, fr, hg, hf, hsz, hl, hm, hT⟩ := HR
  by_cases hr : s.size + p.size ≤ c
  · have hfc := run_firstCells_string (P := P) W i.size p
    have hst := run_storeCells_cells (P := P) g (0 + s.size * i.size) (strCells p) 0 W (fun j hj => by
      rw [strCells_length] at hj
      rw [h4, rs_cell_any hg, Array.getElem?_eq_getElem (by omega)]
      rfl) (fun j hj => by
      rw [strCells_length] at hj
      rw [h4]
      exact rs_frozen hg hf _ (by omega)) (strCells_oneCell p)
    simp only [Nat.add_zero, h4, Nat.mul_one, Nat.zero_add] at hst hfc
    have hrun : (Builtin.append_ #[t, u] o.type #[.slice (some ⟨g, 0, none⟩) s.size c, .string p]).run P W = .ok (.slice (some ⟨g, 0, none⟩) (s.size + p.size) c) (W.setCells g s.size (strCells p)) := by
      simp [Builtin.append_, run_underlying ht, run_underlying hu, sizeOf, typeInfo, h2, h4, Builtin.lenOf, hr, hfc, Addr.add_lit, hst]
    unfold Oper.wp
    simp [execOp, ho, resolve, invoke, builtin, hs, hx, hrun, Result.andThen]
    exact hK _ _ (h g c _ (HR'.room p hr).1 (HR'.room p hr).2 (.inl rfl))
  · have hrun := run_append_grow_string (P := P) W t u o.type 5 i (.int .u8 0) ht hu h2 h3 ⟨g, 0, none⟩ s.size c (strCells s) (by rw [h4, Nat.mul_one, strCells_length]) (fun j v hj => by rw [add_plain]; exact HR'.cells j v hj) p (by omega) (by omega) (by rw [h5]; exact growslice_fits (by omega) (by omega))
    have hge := grownCap_ge W (s.size + p.size) c 5
    have hcm : grownCap W (s.size + p.size) c 5 ≤ maxLen := grownCap_le_maxLen W (s.size + p.size) c 5 (by simp [maxLen]; omega)
    unfold Oper.wp
    simp [execOp, ho, resolve, invoke, builtin, hs, hx, hrun, Result.andThen]
    refine hK _ _ ?_
    have hz1 : (Value.int IntKind.u8 0).cells.size = 1 := rfl
    have hn := h W.heap.size (grownCap W (s.size + p.size) c 5) (W.drew.alloc (.cells ((strCells s).toArray ++ (strCells p).toArray ++ Builtin.zeroCells (Value.int .u8 0).cells (grownCap W (s.size + p.size) c 5 - (s.size + p.size))) 5)) ⟨_, (0, 0), heap_alloc_new W.drew _, .inl rfl, ?_, by rw [ByteArray.size_append]; exact hge, hcm, ?_⟩ ⟨rfl, rfl, rfl, by simp, fun k hk _ => heap_alloc_old W.drew _ hk⟩ (.inr (Nat.le_refl _))
    · simpa using hn
    · simp only [Array.size_append, List.size_toArray, size_zeroCells, hz1, strCells_length]
      omega
    · simp only [Array.toList_append, List.append_assoc]
      rw [← List.append_assoc, ← strCells_app, ← strCells_length (s ++ p)]
      exact List.take_left
theorem append_row {W : World} (hgd : o.guard = none) (sl x : Operand) (t : TypeId) (ho : o.op = .call { callee := .builtin .append, args := #[sl, x], argTypes := #[t, t] })
    (ht : P.underlying t = some (.slice 5)) (i : TypeInfo) (h2 : P.info? 5 = some i) (h3 : i.zero = some (.int .u8 0)) (h4 : i.size = 1) (h5 : i.bytes = 1)
    (g c : Nat) (s p : ByteArray) (b cx : Nat) (hs : a.eval sl = .slice (some ⟨g, 0, none⟩) s.size c) (hx : a.eval x = .slice (some ⟨b, 0, none⟩) p.size cx) (hc : ∀ j u, (strCells p)[j]? = some u → W.cell? ⟨b, j, none⟩ = some u)
    (HR : RowS W g c s) (hlen : s.size + p.size ≤ 2000000)
    (h : ∀ g' c' w1, RowS w1 g' c' (s ++ p) → W.grownBy w1 (some g) → (g' = g ∨ W.heap.size ≤ g') → wpList P ops Q rest (a.put o.dst (.slice (some ⟨g', 0, none⟩) (s.size + p.size) c')) w1) : wpList P ops Q (o :: rest) a W := by
  have HR' := HR
  obtain ⟨cur, fr, hg, hf, hsz, hl, hm, hT⟩ := HR
  refine wpList_append_arg _ hgd sl x t ho 5 i (.int .u8 0) 1 1 ht h2 h3 h4 h5 rfl (by decide) g 0 s.size c (strCells s) hs (by rw [strCells_length, Nat.mul_one]) (fun j u hj => by rw [Nat.zero_add]; exact HR'.cells j u hj) ⟨b, 0, none⟩ p.size cx (strCells p) hx (by rw [strCells_length, Nat.mul_one]) (fun j u hj => by rw [add_plain]; exact hc j u hj) (strCells_oneCell p) ?_ (by simp [maxLen]; omega) (by omega) ?_ ?_
  · intro hroom j hj
    rw [strCells_length] at hj
    rw [Nat.zero_add, Nat.mul_one]
    refine ⟨?_, rs_frozen hg hf _ (by omega)⟩
    rw [rs_cell_any hg, Array.getElem?_eq_getElem (by omega)]
    rfl
  · intro hroom
    rw [Nat.zero_add, Nat.mul_one]
    exact h g c _ (HR'.room p hroom).1 (HR'.room p hroom).2 (.inl rfl)
  · intro hfull v1 w1 hown hgr
    rcases hown.2 with ⟨rfl, hz⟩ | ⟨g', cap, cur', rfl, hb, hh, k1, k2, k3, k4⟩
    · omega
    · refine h g' cap w1 ⟨cur', (0, 0), hh, .inl rfl, by simpa using k3, by rw [ByteArray.size_append]; exact k1, k2, ?_⟩ ⟨hgr.os, hgr.tape, hgr.output, hgr.size, fun k hk _ => hgr.block k hk (by simp)⟩ (.inr hb)
      rw [ByteArray.size_append, strCells_app]
      simpa using k4
/-- '[]byte(s)'. -/
theorem conv_row {W : World} (hgd : o.guard = none) (src dst : TypeId) (x : Operand) (ho : o.op = .convert src dst x) (s : ByteArray) (hx : a.eval x = .string s) (hs : P.underlying src = some .string) (hd : P.underlying dst = some (.slice 5)) (he : P.underlying 5 = some (.int .u8)) (hlen : s.size ≤ 2000000)
    (h : ∀ c w1, RowS w1 W.heap.size c s → W.grownBy w1 none → W.heap.size < w1.heap.size → wpList P ops Q rest (a.put o.dst (.slice (some ⟨W.heap.size, 0, none⟩) s.size c)) w1) : wpList P ops Q (o :: rest) a W := by
  have hge := grownCap_ge W s.size 0 5
  have hle := grownCap_le_maxLen W s.size 0 5 (by simp [maxLen]; omega)
  have e : s.data.size = s.size := rfl
  have hsz : (Lib.bytesCells W 5 s).size = grownCap W s.size 0 5 := by
    simp [Lib.bytesCells, e]
    omega
  refine Kd.event_run hgd (v := .slice (some ⟨W.heap.size, 0, none⟩) s.size (grownCap W s.size 0 5)) (w1 := Lib.bytesWorld W 5 s) ?_ (h _ _ ⟨Lib.bytesCells W 5 s, _, Lib.bytesWorld_at_new W 5 s, .inr (by rw [hsz]; exact Nat.le_refl _), hsz, hge, hle, ?_⟩ ⟨rfl, rfl, rfl, by rw [Lib.bytesWorld_size]; omega, fun k hk _ => Lib.bytesWorld_at_old W 5 s k hk⟩ (by rw [Lib.bytesWorld_size]; omega))
  · have hrun := Lib.run_convert_string_bytes (P := P) W src dst 5 s hs hd he
    simp [execOp, ho, hx, hrun, Result.andThen]
  · simp only [Lib.bytesCells, Array.toList_append, Array.toList_map]
    rw [List.take_append_of_le_length (by simp [e]), List.take_of_length_le (by simp [e])]
    simp [strCells]
/-- 'string(b)'. -/
theorem RowS.string {W : World} {g c : Nat} {s : ByteArray} (h : RowS W g c s) (src dst : TypeId) (hs : P.underlying src = some (.slice 5)) (he : P.underlying 5 = some (.int .u8)) (hd : P.underlying dst = some .string) : (convert src dst (.slice (some ⟨g, 0, none⟩) s.size c)).run P W = .ok (.string s) W := by
  have hl : s.data.toList.length = s.size := rfl
  have := run_convert_bytes_back (P := P) W src dst 5 ⟨g, 0, none⟩ c s.data.toList hs he hd (fun j hj => by
    rw [add_plain]
    refine h.cells j _ ?_
    simp [strCells, List.getElem?_eq_getElem hj])
  rw [hl] at this
  simpa using this
end
end Go.Proofs.Ytjiafbckfnglmaa.Given
