/- The contracts of strings.Builder's methods over this seat's dump: the text that a builder holds. -/
import Derived.Test.YtgmjbnglenmlpaaShelf
import Derived.Test.YtgmjbnglenmlpaaWWords
import Derived.Lib.Strings
import Derived.Lib.Slices
import Derived.Lib.Walk
import Derived.Lib.Builder
import Derived.Lib.AppendStr
import Derived.Lib.UnsafeStr
import Derived.Lib.MakeNoZero
import Derived.WalkKit
import Derived.KernelRfl
import Derived.Below
import Derived.Laws.Externs
import Derived.Laws.IdiomCopy
import Derived.Laws.BitsLemmas
set_option linter.unusedVariables false
set_option linter.unusedSimpArgs false
namespace Go.Proofs.Ytgmjbnglenmlpaa.Given
open Go.RowKit Go.Proofs.YtgmjbnglenmlpaaW.PrintWords
/-- At block b lies a builder that holds s; its row, if any, lies from B on. -/
def Bd (B b : Nat) (s : ByteArray) (w : World) : Prop := Lib.IsBuilder 72 5 B b (Lib.strCells s) w
theorem bd_new (w : World) : Bd w.heap.size w.heap.size ⟨#[]⟩ (w.alloc (.cells #[.pointer none, .slice none 0 0] 72)) := Lib.fresh_isBuilder _ 5 w
theorem bd_sizeT : (Try.prog.info? 72).map (·.size) = some 2 := by kernel_rfl
theorem bd_info5 : (Try.prog.info? 5).map (fun i => (i.zero, i.size, i.bytes)) = some (some (.int .u8 0), 1, 1) := by kernel_rfl
theorem bd_lies : liesAt Try.prog Try.prog.depth 72 (2 / Try.prog.cellsOf 72) 0 72 1 = true := by kernel_rfl
theorem bd_cells_app (s t : ByteArray) : Lib.strCells (s ++ t) = Lib.strCells s ++ Lib.strCells t := by simp [Lib.strCells, ByteArray.data_append]
theorem bd_cells_one (c : Int) (h0 : 0 ≤ c) (h1 : c < 256) : Lib.strCells (strOfNums [c]) = [.int .u8 c] := by
  simp only [Lib.strCells, strOfNums, List.map_cons, List.map_nil]
  simp
  omega
set_option maxHeartbeats 1000000 in
set_option maxRecDepth 100000 in
theorem bd_check_used (b : Nat) (w : World) (h0 : w.cell? ⟨b, 0, none⟩ = some (.pointer (some ⟨b, 0, none⟩))) :
    Calls Try.prog 46 #[.pointer (some ⟨b, 0, none⟩)] w fun e w' => e = .returned (.tuple #[]) ∧ w' = w := by
  obtain ⟨j, hj, _⟩ := Option.map_eq_some_iff.1 bd_sizeT
  go_enter Try.func46, Try.ntmps46
  go_wp2
  rw [Lib.run_neq_ptr_same w _ Try.underlying70 hj]
  go_wp2
  go_end0
  exact ⟨rfl, rfl⟩
set_option maxHeartbeats 1000000 in
set_option maxRecDepth 100000 in
theorem bd_check_fresh (b : Nat) (w : World) (h0 : w.cell? ⟨b, 0, none⟩ = some (.pointer none)) (hsh : w.shape? b = some (72, 2)) (hfz : w.frozen? ⟨b, 0, none⟩ = false) :
    Calls Try.prog 46 #[.pointer (some ⟨b, 0, none⟩)] w fun e w' => e = .returned (.tuple #[]) ∧ w' = w.setCell ⟨b, 0, none⟩ (.pointer (some ⟨b, 0, none⟩)) := by
  obtain ⟨j, hj, hjs⟩ := Option.map_eq_some_iff.1 bd_sizeT
  go_enter Try.func46, Try.ntmps46
  go_wp2
  rw [Lib.run_to_unsafe w ⟨b, 0, none⟩ Try.underlying70 Try.underlying88 hj (by rw [hjs]; decide) hsh (Nat.zero_lt_succ 1)]
  simp only [Result.andThen]
  rw [Oper.upon_value]
  go_wp2
  rw [run_callFunc_extern Try.func53 (by kernel_rfl) (by kernel_rfl) (by kernel_rfl) (e := Extern.AbiNoEscape.same) (by kernel_rfl)]
  rw [Lib.run_noEscape]
  simp only [Result.andThen]
  rw [Oper.upon_value]
  go_wp2
  rw [Lib.run_from_unsafe w ⟨b, 0, none⟩ Try.underlying88 Try.underlying70 hj hsh bd_lies]
  simp only [Result.andThen]
  rw [Oper.upon_value]
  go_wp2
  go_end0
  exact ⟨rfl, rfl⟩
/-- Blocks of other types, the builder's own apart, stay. -/
def Keep5 (b : Nat) (w w' : World) : Prop := ∀ (i : Nat) (cells : Array Value) (t : TypeId) (fr : Nat × Nat), i ≠ b → w.heap[i]? = some (.cells cells t fr) → t ≠ 5 → w'.heap[i]? = w.heap[i]?
/-- Behind copyCheck the builder bears its own address. -/
theorem bd_check (B b : Nat) (s : ByteArray) (w : World) (h : Bd B b s w) :
    Calls Try.prog 46 #[.pointer (some ⟨b, 0, none⟩)] w fun e w' => e = .returned (.tuple #[]) ∧ (Lib.BuilderAt 72 5 B b (.pointer (some ⟨b, 0, none⟩)) (Lib.strCells s) w' ∧ Below B w w') ∧ ∀ i, i ≠ b → w'.heap[i]? = w.heap[i]? := by
  rcases h with h | h
  · refine (bd_check_fresh b w h.cell0 h.shape h.frozen0).mono ?_
    rintro e w' ⟨rfl, rfl⟩
    exact ⟨rfl, ⟨h.used _, (Below.refl B w).setCell (p := ⟨b, 0, none⟩) h.1 _⟩, fun i hi => Below.heap_setCell _ _ _ _ hi⟩
  · refine (bd_check_used b w h.cell0).mono ?_
    rintro e w' ⟨rfl, rfl⟩
    exact ⟨rfl, ⟨h, Below.refl B _⟩, fun _ _ => rfl⟩
set_option maxHeartbeats 2000000 in
set_option maxRecDepth 100000 in
/-- WriteString. -/
theorem bd_strK (B b : Nat) (s t : ByteArray) (w : World) (h : Bd B b s w) (hlen : s.size + t.size ≤ 140737488355328) (hBw : B ≤ w.heap.size) :
    Calls Try.prog 37 #[.pointer (some ⟨b, 0, none⟩), .string t] w fun e w' => e = .returned (.tuple #[.int .i64 t.size, .nilIface]) ∧ Bd B b (s ++ t) w' ∧ Below B w w' ∧ Keep5 b w w' := by
  obtain ⟨i0, hi, hz0, hz1, hz2⟩ := info_parts bd_info5
  have sl := Lib.strCells_length s
  go_enter Try.func37, Try.ntmps37
  go_wp2_with (go_at_call 46; refine (bd_check B b s _ h).mono ?_)
  rintro e w1 ⟨rfl, ⟨h1, hb1⟩, hk1⟩
  have HK1 := Aside0.mk hk1
  clear hk1
  obtain ⟨hB, v, hbk, hown, hne⟩ := h1
  have c0 : w1.cell? ⟨b, 0, none⟩ = some (.pointer (some ⟨b, 0, none⟩)) := by rw [Lib.cell_of_heap hbk]; rfl
  have c1 : w1.cell? ⟨b, 1, none⟩ = some v := by rw [Lib.cell_of_heap hbk]; rfl
  go_wp2_with (at_builtin; refine Lib.wpList_append_own_string _ rfl _ _ 44 9 rfl B 5 i0 Try.underlying44 Try.underlying9 hi hz0 hz1 hz2 _ _ _ rfl hown t rfl ?c3 ?c4 ?c5 ?_)
  case c3 => unfold maxLen; omega
  case c4 => omega
  case c5 => have := hb1.size; omega
  intro v' w2 hown' hgrow _
  have hlt : b < w1.heap.size := by
    rcases Nat.lt_or_ge b w1.heap.size with h' | h'
    · exact h'
    · simp [Array.getElem?_eq_none h'] at hbk
  have hb2 : w2.heap[b]? = some (.cells #[.pointer (some ⟨b, 0, none⟩), v] 72 (0, 0)) := by
    rw [hgrow.block b hlt (fun e => hne e.symm)]
    exact hbk
  have d0 : w2.cell? ⟨b, 0, none⟩ = some (.pointer (some ⟨b, 0, none⟩)) := by rw [Lib.cell_of_heap hb2]; rfl
  have d1 : w2.cell? ⟨b, 1, none⟩ = some v := by rw [Lib.cell_of_heap hb2]; rfl
  have f1 : w2.frozen? ⟨b, 1, none⟩ = false := Lib.frozen_of_heap hb2 1
  obtain ⟨ao, n', cap, rfl⟩ : ∃ ao n' cap, v' = .slice ao n' cap := by
    rcases hown'.2 with ⟨hv, _⟩ | ⟨g, cap, cur, hv, _⟩
    · exact ⟨_, _, _, hv⟩
    · exact ⟨_, _, _, hv⟩
  go_wp2
  go_ret2
  refine ⟨rfl, .inr ?_, ?_, ?_⟩
  · rw [bd_cells_app]
    exact Lib.BuilderAt.put (T := 72) (e := 5) hB hb2 (bs' := Lib.strCells s ++ Lib.strCells t) (by simpa [Lib.strCells_length] using hown') (by decide)
  · exact (hb1.grown hgrow (by have := hb1.size; omega) (fun k hk => (hown.lt k hk).1)).setCell (p := ⟨b, 1, none⟩) hB _
  · intro i cells t fr hi hc ht
    have e1 := HK1.out i hi
    refine (Below.heap_setCell _ _ _ _ hi).trans ((hgrow.block i (Array.getElem?_eq_some_iff.1 (e1.trans hc)).1 ?_).trans e1)
    intro hr
    obtain ⟨cells', hc'⟩ := own_typed hown i hr.symm
    rw [e1, hc] at hc'
    injection hc' with hc'
    injection hc' with _ hc'
    exact ht hc'
theorem bd_str (B b : Nat) (s t : ByteArray) (w : World) (h : Bd B b s w) (hlen : s.size + t.size ≤ 140737488355328) (hBw : B ≤ w.heap.size) :
    Calls Try.prog 37 #[.pointer (some ⟨b, 0, none⟩), .string t] w fun e w' => e = .returned (.tuple #[.int .i64 t.size, .nilIface]) ∧ Bd B b (s ++ t) w' ∧ Below B w w' :=
  (bd_strK B b s t w h hlen hBw).mono fun _ _ h => ⟨h.1, h.2.1, h.2.2.1⟩
/-- String. -/
theorem bd_text (B b : Nat) (s : ByteArray) (w : World) (h : Bd B b s w) (hBw : B ≤ w.heap.size) :
    Calls Try.prog 39 #[.pointer (some ⟨b, 0, none⟩)] w fun e w' => e = .returned (.string s) ∧ Below B w w' := by
  refine (Try.Builder_String_any B b s.data.toList w h hBw).mono ?_
  rintro e w' ⟨rfl, hb⟩
  exact ⟨rfl, hb⟩
end Go.Proofs.Ytgmjbnglenmlpaa.Given
