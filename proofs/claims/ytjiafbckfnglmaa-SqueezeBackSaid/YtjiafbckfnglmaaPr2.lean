/- squeeze.Press, in plain words: what is pressed. -/
import Derived.Test.YtjiafbckfnglmaaPr1
import Derived.Test.YtjiafbckfnglmaaVx1
import Derived.Maps.OwnSet
import Derived.Maps.Views
import Derived.StringKeys
set_option linter.unusedSimpArgs false
set_option linter.unusedVariables false
namespace Go.Proofs.Ytjiafbckfnglmaa.Given
open Go.RowKit Go.Proofs.YtjiafbckfnglmaaW.PrintWords Go.WideMaps Go.Maps Go.Lib
/-- How far two places of a text are alike. -/
def mrun (s : ByteArray) (p i : Nat) : Nat → Nat → Nat
  | 0, n => n
  | k + 1, n => if n < 130 ∧ i + n < s.size ∧ bt s ((p : Int) + n) = bt s ((i : Int) + n) then mrun s p i k (n + 1) else n
/-- Where four bytes stood last. -/
def upd (M : ByteArray → Option Nat) (k : ByteArray) (i : Nat) : ByteArray → Option Nat := fun k' => if k' = k then some i else M k'
/-- A piece that is made again. -/
def again (n d : Nat) : ByteArray := strOfNums [((125 + n : Nat) : Int) % 256, ((d / 256 : Nat) : Int) % 256, (d : Int) % 256]
def pressL (s : ByteArray) : Nat → ByteArray → (ByteArray → Option Nat) → Nat → Nat → Option ByteArray
  | 0, _, _, _, _ => none
  | t + 1, out, M, done, i =>
    if i + 4 ≤ s.size then
      match M (s.extract i (i + 4)) with
      | none => pressL s t out (upd M (s.extract i (i + 4)) i) done (i + 1)
      | some p => (V.squeeze_plains.f 1000 (s.extract done i)).bind fun b =>
        if p < i ∧ out.size + b.size ≤ 1000000 then
          pressL s t ((out ++ b) ++ again (mrun s p i 126 4) (i - p)) (upd M (s.extract i (i + 4)) i) (i + mrun s p i 126 4) (i + mrun s p i 126 4)
        else none
    else (V.squeeze_plains.f 1000 (s.extract done s.size)).bind fun b => if out.size + b.size ≤ 1000000 then some (out ++ b) else none
def squeeze_Press.f (s : ByteArray) : Option ByteArray :=
  if 60000 < s.size then some ⟨#[]⟩ else (V.digit_Dec.f 100 (s.size : Int)).bind fun d => if d.size ≤ 1000 then pressL s 60001 (d ++ ⟨#[59]⟩) (fun _ => none) 0 0 else none
theorem mrun_ge (s : ByteArray) (p i : Nat) : ∀ k n, n ≤ mrun s p i k n
  | 0, n => Nat.le_refl _
  | k + 1, n => by
    unfold mrun
    split
    · have := mrun_ge s p i k (n + 1)
      omega
    · omega
theorem mrun_le (s : ByteArray) (p i : Nat) : ∀ k n, n ≤ 130 → i + n ≤ s.size → mrun s p i k n ≤ 130 ∧ i + mrun s p i k n ≤ s.size
  | 0, n, h, h' => ⟨h, h'⟩
  | k + 1, n, h, h' => by
    unfold mrun
    split
    · exact mrun_le s p i k (n + 1) (by omega) (by omega)
    · exact ⟨h, h'⟩
/-- The map reads so. -/
def MRel (D : DataW Unit) (M : ByteArray → Option Nat) : Prop :=
  IsMap D ∧ ∀ k : ByteArray, Maps.has D (.string k.data.toList) = (M k).isSome ∧ D.atKey (.string k.data.toList) (.lit (.int .i64 0)) = .lit (.int .i64 (((M k).getD 0 : Nat) : Int))
theorem MRel.nil : MRel (.map []) (fun _ => none) := ⟨⟨[], rfl⟩, fun k => ⟨rfl, rfl⟩⟩
theorem key_ne {k k' : ByteArray} (h : ¬ k' = k) : (Lit.string k'.data.toList) ≠ .string k.data.toList := by
  intro e
  apply h
  injection e with e
  apply ByteArray.ext
  exact Array.toList_inj.1 e
theorem MRel.put {D : DataW Unit} {M : ByteArray → Option Nat} (h : MRel D M) (k : ByteArray) (i : Nat) : MRel (D.put (.string k.data.toList) (.lit (.int .i64 (i : Int)))) (upd M k i) := by
  obtain ⟨hm, h⟩ := h
  refine ⟨?_, fun k' => ?_⟩
  · obtain ⟨es, rfl⟩ := hm
    exact ⟨_, rfl⟩
  by_cases hk : k' = k
  · subst hk
    rw [has_put_same hm (by trivial), atKey_put_same hm (by trivial)]
    simp [upd]
  · rw [has_put_other (key_ne hk), atKey_put_other (key_ne hk)]
    simpa [upd, hk] using h k'
section
variable {P : Program} {w : World} {ops : Array Oper} {rest : List Oper} {o : Oper} {a : Act} {Q : Exit → Act → World → Prop}
theorem append_three {W : World} (hgd : o.guard = none) (sl x : Operand) (t : TypeId) (ho : o.op = .call { callee := .builtin .append, args := #[sl, x], argTypes := #[t, t] })
    (ht : P.underlying t = some (.slice 5)) (i : TypeInfo) (h2 : P.info? 5 = some i) (h3 : i.zero = some (.int .u8 0)) (h4 : i.size = 1) (h5 : i.bytes = 1)
    (g c : Nat) (s : ByteArray) (n m d : Nat) (v1 v2 v3 : Int) (hs : a.eval sl = .slice (some ⟨g, 0, none⟩) n c) (hn : n = s.size) (hx : a.eval x = .slice (some ⟨W.heap.size, 0, none⟩) 3 3)
    (e1 : v1 = ((125 + m : Nat) : Int) % 256) (e2 : v2 = ((d / 256 : Nat) : Int) % 256) (e3 : v3 = (d : Int) % 256)
    (HR : RowS W g c s) (hlen : s.size ≤ 1000000)
    (h : ∀ g' c' w1, RowS w1 g' c' (s ++ again m d) → W.grownBy w1 (some g) → (g' = g ∨ W.heap.size ≤ g') → wpList P ops Q rest (a.put o.dst (.slice (some ⟨g', 0, none⟩) (n + 3) c')) w1) : wpList P ops Q (o :: rest) a (W.alloc (.cells #[.int .u8 v1, .int .u8 v2, .int .u8 v3] 5)) := by
  subst hn
  have hcl : strCells (again m d) = [.int .u8 v1, .int .u8 v2, .int .u8 v3] := by
    unfold again
    rw [← e1, ← e2, ← e3, strCells_nums]
    · rfl
    · intro z hz
      simp only [List.mem_cons, List.not_mem_nil, or_false] at hz
      rcases hz with rfl | rfl | rfl <;> omega
  have hsz : (again m d).size = 3 := rfl
  have hgr : W.grownBy (W.alloc (.cells #[.int .u8 v1, .int .u8 v2, .int .u8 v3] 5)) none := World.grownBy_alloc _ _ _
  have hnew : (W.alloc (.cells #[.int .u8 v1, .int .u8 v2, .int .u8 v3] 5)).heap[W.heap.size]? = some (.cells #[.int .u8 v1, .int .u8 v2, .int .u8 v3] 5 (0, 0)) := heap_alloc_new W _
  refine append_row hgd sl x t ho ht i h2 h3 h4 h5 g c s (again m d) W.heap.size 3 hs (by rw [hsz]; exact hx) (fun j u hj => ?_) (HR.grown hgr (by simp)) (by rw [hsz]; omega) ?_
  · rw [hcl] at hj
    rw [rs_cell_any hnew]
    simpa using hj
  · intro g' c' w1 r1 r2 r3
    rw [hsz]
    have hs1 : W.heap.size ≤ (W.alloc (.cells #[.int .u8 v1, .int .u8 v2, .int .u8 v3] 5)).heap.size := by simp
    exact h g' c' w1 r1 ⟨r2.os, r2.tape, r2.output, Nat.le_trans hs1 r2.size, fun k hk hne => (r2.block k (Nat.lt_of_lt_of_le hk hs1) hne).trans (hgr.block k hk (by simp))⟩ (r3.imp id fun h => Nat.le_trans hs1 h)
theorem map_look (hg : o.guard = none) (m x : Operand) (t : TypeId) (hop : o.op = Op.lookup t m x true)
    (k e : TypeId) (hk : P.underlying k = some .string) (ht : P.underlying t = some (.map k e)) (he : P.underlying e = some (.int .i64)) (hz : (zeroValue e).run P w = .ok (.int .i64 0) w) (b n : Nat) (D : DataW Unit) (M : ByteArray → Option Nat) (HM : MRel D M)
    (hm : a.eval m = .map (some b)) (hown : w.ownsMap P k (plainElem P e) b n D) (s : ByteArray) (hs : s.size ≤ 1000) (hx : a.eval x = .string s)
    (hK : wpList P ops Q rest (a.put o.dst (.tuple #[.int .i64 (((M s).getD 0 : Nat) : Int), .bool (M s).isSome])) w) : wpList P ops Q (o :: rest) a w := by
  refine wpList_lookup_own_ok_int w hg m x t hop k e .i64 (string_keyed hk) ht he hz b n D hm hown _ (.string s.data.toList) hx (keyOf_string_mk hk (by unfold maxLen; omega)) ?_
  intro c hat _
  obtain ⟨h1, h2⟩ := HM.2 s
  rw [h2] at hat
  injection hat with hat
  injection hat with _ hat
  rw [h1, ← hat]
  exact hK
end
end Go.Proofs.Ytjiafbckfnglmaa.Given
