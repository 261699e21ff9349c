/- Chapter 6's texts of asks: 100 bytes at most. -/
import Derived.Test.YtpnnnhdhmdildaaWithin
import Derived.Test.YtpnnnhdhmdildaaJn10
import Derived.Laws.MakeOwn
import Derived.Laws.BytesArg
set_option linter.unusedVariables false
set_option linter.unusedSimpArgs false
namespace Go.Proofs.Ytpnnnhdhmdildaa.Given
open Go.RowKit Go.Proofs.YtpnnnhdhmdildaaW.PrintWords
theorem make_row {P : Program} {ops : Array Oper} {rest : List Oper} {o : Oper} {a : Act} {Q : Exit → Act → World → Prop} {W : World} (hgd : o.guard = none) (l : Operand) (t e : TypeId) (ho : o.op = .makeSlice t l l) (i : TypeInfo) (z : Value) (ht : P.underlying t = some (.slice e)) (hi : P.info? e = some i) (hz : i.zero = some z) (hs : i.size = 1)
    (n : Nat) (hl : a.eval l = .int .i64 (n : Int)) (hb : i.bytes * n ≤ 281474976710656) (h63 : n ≤ 9223372036854775807)
    (h : wpList P ops Q rest (a.put o.dst (.slice (some ⟨W.heap.size, 0, none⟩) n n)) (W.alloc (.cells (madeCells z.cells n) e))) : wpList P ops Q (o :: rest) a W := by
  refine Kd.event_run hgd ?_ h
  have hrun := run_make (P := P) W t e i z ht hi hz .i64 .i64 (n : Int) (n : Int) (by omega) (by omega) (by rw [← Int.natCast_mul]; omega) (by omega)
  rw [hs] at hrun
  simp only [Int.toNat_natCast, Nat.mul_one] at hrun
  simp [execOp, ho, hl, hrun, Result.andThen]
theorem made_one (v : Value) (n : Nat) : (madeCells #[v] n).toList = List.replicate n v := by
  apply List.ext_getElem
  · simp [madeCells]
  · intro i h1 h2
    simp [madeCells, Nat.mod_one]
theorem made_nums (n : Nat) : madeCells #[.int .u8 0] n = (nums .u8 (List.replicate n 0)).toArray := by
  apply Array.toList_inj.1
  rw [made_one]
  simp [nums]
theorem nums_cell {w : World} {g : Nat} {t : TypeId} {k : IntKind} {l : List Int} (h : w.heap[g]? = some (.cells ((nums k l).toArray) t (0, 0))) (j : Nat) (hj : j < l.length) : w.cell? ⟨g, j, none⟩ = some (.int k (l.getD j 0)) := by
  rw [blk_cell h j]
  simp [nums, hj, List.getD_eq_getElem?_getD]
theorem nums_set (bs : List Int) (k : Nat) (x : Int) : ((nums .u8 bs).toArray).setIfInBounds k (.int .u8 x) = (nums .u8 (bs.set k x)).toArray := by
  apply Array.toList_inj.1
  simp [nums, List.map_set]
set_option maxRecDepth 100000 in
set_option maxHeartbeats 1000000 in
theorem text_call (a0 a1 a2 z c : Int) (w : World) :
    Calls Try.prog 17 #[.agg #[.int .i64 a0, .int .i64 a1, .int .i64 a2, .int .i64 z, .int .u8 c]] w fun e w' => ∃ s : ByteArray, e = .returned (.string s) ∧ s.size ≤ 100 ∧ Below w.heap.size w w' := by
  obtain ⟨inf, f1, f2, f3, f4⟩ : ∃ i, Try.prog.info? 5 = some i ∧ i.zero = some (.int .u8 0) ∧ i.size = 1 ∧ i.bytes = 1 := ⟨_, rfl, rfl, rfl, rfl⟩
  have F1 := Aside0.mk f1
  have F2 := Aside0.mk f2
  have F3 := Aside0.mk f3
  have F4 := Aside0.mk f4
  clear f1 f2 f3 f4
  go_enter Try.func17, Try.ntmps17
  go_wp2_with (first
    | (go_at_call 18; refine (within_call z 0 100 _ (by decide) (by decide) (by decide)).mono ?_; rintro e w1 ⟨rr, rfl, r0, r1, hd⟩; obtain ⟨r, rfl⟩ : ∃ r : Nat, rr = r := ⟨rr.toNat, by omega⟩; obtain ⟨⟨nd, rfl⟩⟩ := hd)
    | ((with_reducible refine gate_dst (N := 8) rfl ?_); refine make_row rfl (.tmp 7) 37 5 rfl inf (.int .u8 0) Try.underlying37 F1.out F2.out F3.out r rfl (by rw [F4.out]; omega) (by omega) ?_))
  have A0 : Aside0 (((((w.alloc (.cells #[.int .i64 a0, .int .i64 a1, .int .i64 a2, .int .i64 z, .int .u8 c] 35)).drewN nd).alloc (.cells (madeCells #[.int .u8 0] r) 5)).heap[w.heap.size + 1]?) = some (.cells (nums .u8 (List.replicate r 0)).toArray 5 (0, 0))) := ⟨by
    have := World.alloc_heap_new ((w.alloc (.cells #[.int .i64 a0, .int .i64 a1, .int .i64 a2, .int .i64 z, .int .u8 c] 35)).drewN nd) (.cells (madeCells #[.int .u8 0] r) 5)
    rw [show ((w.alloc (.cells #[.int .i64 a0, .int .i64 a1, .int .i64 a2, .int .i64 z, .int .u8 c] 35)).drewN nd).heap.size = w.heap.size + 1 from World.size_alloc _ _] at this
    rw [this, made_nums]⟩
  have BL : Aside0 (Below w.heap.size w (((w.alloc (.cells #[.int .i64 a0, .int .i64 a1, .int .i64 a2, .int .i64 z, .int .u8 c] 35)).drewN nd).alloc (.cells (madeCells #[.int .u8 0] r) 5))) :=
    ⟨balloc _ (((Below.refl _ w).alloc (Nat.le_refl _) _).trans ((Drawn0.below ⟨⟨nd, rfl⟩⟩).mono (by rw [World.size_alloc]; omega))) (Nat.le_refl _)⟩
  have BX : Aside0 ((((w.alloc (.cells #[.int .i64 a0, .int .i64 a1, .int .i64 a2, .int .i64 z, .int .u8 c] 35)).drewN nd).alloc (.cells (madeCells #[.int .u8 0] r) 5)).heap[w.heap.size]? = some (.cells #[.int .i64 a0, .int .i64 a1, .int .i64 a2, .int .i64 z, .int .u8 c] 35 (0, 0))) :=
    ⟨blk_alloc (blk_drewN (blk_new w _) nd) _⟩
  generalize ((w.alloc (.cells #[.int .i64 a0, .int .i64 a1, .int .i64 a2, .int .i64 z, .int .u8 c] 35)).drewN nd).alloc (.cells (madeCells #[.int .u8 0] r) 5) = W0 at A0 BL BX ⊢
  go_loopw [11] (fun v11 wr => ∃ (k : Nat) (bs : List Int), k ≤ r ∧ v11 = .int .i64 (k : Int) ∧ bs.length = r ∧ Aside0 (wr.heap[w.heap.size + 1]? = some (.cells (nums .u8 bs).toArray 5 (0, 0))) ∧ Aside0 (Below w.heap.size w wr) ∧ Aside0 (wr.heap[w.heap.size]? = some (.cells #[.int .i64 a0, .int .i64 a1, .int .i64 a2, .int .i64 z, .int .u8 c] 35 (0, 0)))) (fun v11 _ => r - (intOf v11).toNat)
  case atStart => exact ⟨0, List.replicate r 0, by omega, rfl, by simp, A0, BL, BX⟩
  case round =>
    clear A0 BL BX
    obtain ⟨k, bs, hk, rfl, hl, A1, BL1, BX1⟩ := hrel
    have hl' := Aside0.mk hl
    clear hl
    by_cases hlt : k < r
    · have c4 : wr.cell? ⟨w.heap.size, 4, none⟩ = some (.int .u8 c) := (Lib.cell_of_heap BX1.out 4).trans rfl
      have ck := nums_cell A1.out k (by rw [hl'.out]; exact hlt)
      have fk := blk_frozen A1.out k
      go_wp2
      go_roundw
      case rel => exact ⟨k + 1, bs.set k _, by omega, by go_num, by simp [hl'.out], ⟨blk_put A1.out _ _ (nums_set _ _ _)⟩, ⟨BL1.out.setCell (by simp) _⟩, ⟨(Below.heap_setCell _ _ _ _ (by simp)).trans BX1.out⟩⟩
      case measure => simp [intOf]; omega
    · have cv : (convert 37 9 (.slice (some ⟨w.heap.size + 1, 0, none⟩) r r)).run Try.prog wr = .ok (.string (strOfNums bs)) wr := by
        refine run_convert_bytes_arg _ 37 5 Try.underlying37 Try.underlying5 (w.heap.size + 1) 0 r r bs (by rw [hl'.out]) (fun i hi => ?_) 9 Try.underlying9
        rw [Nat.zero_add, nums_cell A1.out i (by rw [hl'.out]; omega)]
      go_wp2
      go_ret
      exact ⟨_, rfl, by simp [strOfNums, ByteArray.size]; have := hl'.out; omega, BL1.out⟩
end Go.Proofs.Ytpnnnhdhmdildaa.Given
