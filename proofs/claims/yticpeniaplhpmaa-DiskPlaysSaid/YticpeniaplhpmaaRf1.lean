/- The document's own disk: how it lies in memory; a new one. -/
import Derived.Test.YticpeniaplhpmaaDkTears
import Derived.Deep.AppendLies
import Derived.Deep.RegionLaw
import Derived.Deep.OwnRows
set_option linter.unusedVariables false
set_option linter.unusedSimpArgs false
namespace Go.Proofs.Yticpeniaplhpmaa.Given
open Go.RowKit Go.Proofs.YticpeniaplhpmaaW.PrintWords
/-- The document's disk. -/
structure RS where
  secs : List ByteArray
  left : Int
  keep : Int
  down : Bool
theorem grown_drawn {B : Nat} {w X Y W' : World} {row : Option Nat} (hg : Y.grownBy W' row) (h : Below B w X) (e1 : Y.heap = X.heap) (e2 : Y.os = X.os) (e3 : Y.tape = X.tape) (e4 : Y.output = X.output) (hB : B ≤ X.heap.size) (hr : ∀ k, row = some k → B ≤ k) : Below B w W' :=
  Below.grown (⟨e2.trans h.os, e3.trans h.tape, e4.trans h.output, by rw [e1]; exact h.size, fun i hi => by rw [e1]; exact h.block i hi⟩ : Below B w Y) hg (by rw [e1]; exact hB) hr
def RefAt (b q : Nat) (v : Value) (R : RS) (w : World) : Prop :=
  b ≤ q ∧ w.heap[q]? = some (.cells #[v, .int .i64 R.left, .int .i64 R.keep, .bool R.down] 41 (0, 0)) ∧ w.ownsRow b 9 1 v R.secs.length (R.secs.map Value.string)
theorem conv32 (W : World) : (convert 30 9 (.slice (some ⟨W.heap.size, 0, none⟩) 32 32)).run Try.prog (W.alloc (.cells (Array.replicate 32 (.int .u8 0)) 5)) =
    .ok (.string (wholeS ⟨#[]⟩)) (W.alloc (.cells (Array.replicate 32 (.int .u8 0)) 5)) := by
  have h := run_convert_bytes_arg (P := Try.prog) (W.alloc (.cells (Array.replicate 32 (.int .u8 0)) 5)) 30 5 Try.underlying30 Try.underlying5 W.heap.size 0 32 32 (List.replicate 32 0) (by simp) (fun i hi => ?_) 9 Try.underlying9
  · rw [h]
    rfl
  · rw [Lib.cell_of_heap (World.alloc_heap_new W _), Nat.zero_add, Array.getElem?_replicate, if_pos hi, List.getD_eq_getElem?_getD, List.getElem?_replicate, if_pos hi]
    rfl
theorem make32 (W : World) : (Instr.makeSlice 30 (.int .i64 32) (.int .i64 32)).run Try.prog W = .ok (.slice (some ⟨W.heap.size, 0, none⟩) 32 32) (W.alloc (.cells (Array.replicate 32 (.int .u8 0)) 5)) := by
  have h := run_make_row' (P := Try.prog) 30 5 (.int .u8 0) 1 Try.underlying30 (by kernel_rfl) rfl .i64 .i64 32 (by decide) (by decide) W
  rw [show madeCells #[Value.int IntKind.u8 0] 32 = Array.replicate 32 (Value.int .u8 0) from by kernel_rfl] at h
  exact h
theorem conv32n (W : World) (m : Nat) : (convert 30 9 (.slice (some ⟨W.heap.size, 0, none⟩) 32 32)).run Try.prog ((W.alloc (.cells (Array.replicate 32 (.int .u8 0)) 5)).drewN m) =
    .ok (.string (wholeS ⟨#[]⟩)) ((W.alloc (.cells (Array.replicate 32 (.int .u8 0)) 5)).drewN m) := by
  have h := run_convert_bytes_arg (P := Try.prog) ((W.alloc (.cells (Array.replicate 32 (.int .u8 0)) 5)).drewN m) 30 5 Try.underlying30 Try.underlying5 W.heap.size 0 32 32 (List.replicate 32 0) (by simp) (fun i hi => ?_) 9 Try.underlying9
  · rw [h]
    rfl
  · have e : ((W.alloc (.cells (Array.replicate 32 (.int .u8 0)) 5)).drewN m).heap[W.heap.size]? = some (.cells (Array.replicate 32 (.int .u8 0)) 5 (0, 0)) := World.alloc_heap_new W _
    rw [Lib.cell_of_heap e, Nat.zero_add, Array.getElem?_replicate, if_pos hi, List.getD_eq_getElem?_getD, List.getElem?_replicate, if_pos hi]
    rfl
theorem conv32d (W : World) : (convert 30 9 (.slice (some ⟨W.heap.size, 0, none⟩) 32 32)).run Try.prog (W.alloc (.cells (Array.replicate 32 (.int .u8 0)) 5)).drew =
    .ok (.string (wholeS ⟨#[]⟩)) (W.alloc (.cells (Array.replicate 32 (.int .u8 0)) 5)).drew := conv32n W 1
theorem ref_app {B g cap j : Nat} {v : Value} {Z : ByteArray} {l k : Int} {d : Bool} {W : World} (h : W.heap[B]? = some (.cells #[v, .int .i64 l, .int .i64 k, .bool d] 41 (0, 0)))
    (ho : W.ownsRow B 9 1 (.slice (some ⟨g, 0, none⟩) ((List.replicate j Z).length + 1) cap) ((List.replicate j Z).length + 1) ((List.replicate j Z).map Value.string ++ [.string Z])) :
    RefAt B B (.slice (some ⟨g, 0, none⟩) (j + 1) cap) ⟨List.replicate (j + 1) Z, l, k, d⟩ (W.setCell ⟨B, 0, none⟩ (.slice (some ⟨g, 0, none⟩) (j + 1) cap)) := by
  rw [List.length_replicate] at ho
  have hne : B ≠ g := by
    rintro rfl
    rcases ho.2 with ⟨hv, _⟩ | ⟨g', cap', cur, hv, _, hg, _⟩
    · cases hv
    · cases hv
      rw [hg] at h
      cases h
  refine ⟨Nat.le_refl _, ?_, ?_⟩
  · rw [Go.Joins.block_setCell h]
    rfl
  · show (W.setCell ⟨B, 0, none⟩ _).ownsRow B 9 1 _ (List.replicate (j + 1) Z).length ((List.replicate (j + 1) Z).map Value.string)
    rw [List.length_replicate, List.replicate_succ', List.map_append]
    exact ownsRow_setCell_other ho (by simp [Value.ownBlock]; omega) _
set_option maxHeartbeats 4000000 in
set_option maxRecDepth 100000 in
theorem newdisk_call (n : Int) (k : Nat) (w : World) (hk : min (max n 1) 2000 = (k : Int)) :
    Calls Try.prog 15 #[.int .i64 n] w fun e w' => ∃ q v, e = .returned (.pointer (some ⟨q, 0, none⟩)) ∧ RefAt w.heap.size q v ⟨List.replicate k (wholeS ⟨#[]⟩), -1, 0, false⟩ w' ∧ Below w.heap.size w w' := by
  have hcv := conv32
  have hmk := make32
  have hcn := conv32n
  have hcd := conv32d
  generalize wholeS ⟨#[]⟩ = Z at hcv hcn hcd ⊢
  go_enter Try.func15, Try.ntmps15
  go_wp2
  obtain ⟨B, hB⟩ : ∃ B, w.heap.size = B := ⟨_, rfl⟩
  have hbb : B ≤ w.heap.size := Nat.le_of_eq hB.symm
  have HBW := Aside0.mk hB
  have R0 : RefAt B B (.slice none 0 0) ⟨[], -1, 0, false⟩ (w.alloc (.cells #[.slice none 0 0, .int .i64 (-1), .int .i64 0, .bool false] 41)) := by
    refine ⟨Nat.le_refl _, ?_, World.ownsRow_nil _ _ _ _⟩
    rw [← hB]
    exact World.alloc_heap_new w _
  have B0 : Below B w (w.alloc (.cells #[.slice none 0 0, .int .i64 (-1), .int .i64 0, .bool false] 41)) := (Below.refl _ w).alloc hbb _
  have R0 := Aside0.mk R0
  have B0 := Aside0.mk B0
  rw [hB]
  clear hB
  generalize w.alloc (.cells #[.slice none 0 0, .int .i64 (-1), .int .i64 0, .bool false] 41) = W0 at R0 B0 ⊢
  have k1 : k ≤ 2000 := by omega
  obtain ⟨i0, hi, hz0, hz1, hz2⟩ := info_parts info9
  go_loopw [9] (fun v9 wr => ∃ (j : Nat) (v : Value), v9 = .int .i64 (j : Int) ∧ j ≤ k ∧ Aside0 (RefAt B B v ⟨List.replicate j Z, -1, 0, false⟩ wr) ∧ Aside0 (Below B w wr)) (fun v _ => k - (intOf v).toNat)
  case atStart => exact ⟨0, _, rfl, Nat.zero_le _, R0, B0⟩
  case round =>
    clear R0 B0
    obtain ⟨j, v, rfl, hj, HR, HB⟩ := hrel
    by_cases hlt : j < k
    · obtain ⟨_, r2, r3⟩ := HR.out
      have c0 : wr.cell? ⟨B, 0, none⟩ = some v := by rw [Lib.cell_of_heap r2]; rfl
      have f0 : wr.frozen? ⟨B, 0, none⟩ = false := Lib.frozen_of_heap r2 0
      have R3 := Aside0.mk r3
      have R2 := Aside0.mk r2
      clear r2 r3
      go_wp2
      have HNB : Aside0 (((wr.alloc (.cells (Array.replicate 32 (.int .u8 0)) 5)).alloc (.cells #[.string Z] 9)).heap[wr.heap.size + 1]? = some (.cells #[.string Z] 9 (0, 0))) := ⟨by
        have := World.alloc_heap_new (wr.alloc (.cells (Array.replicate 32 (.int .u8 0)) 5)) (.cells #[.string Z] 9)
        rwa [World.size_alloc] at this⟩
      have HNO := Aside0.mk (((R3.out.alloc (.cells (Array.replicate 32 (.int .u8 0)) 5))).alloc (.cells #[.string Z] 9))
      have HB2 := Aside0.mk ((HB.out.alloc (Nat.le_trans hbb HB.out.size) (.cells (Array.replicate 32 (.int .u8 0)) 5)).alloc (by have := HB.out.size; simp; omega) (.cells #[.string Z] 9))
      have hsz : B ≤ ((wr.alloc (.cells (Array.replicate 32 (.int .u8 0)) 5)).alloc (.cells #[.string Z] 9)).heap.size := by have := HB.out.size; simp; omega
      have HSZ := Aside0.mk hsz
      have hj2 : (j + 1) * 16 ≤ 140737488355328 := by omega
      have hj3 : j + 1 ≤ maxLen := by unfold maxLen; omega
      have R2B := Aside0.mk ((Below.heap_alloc _ (.cells #[.string Z] 9) B (by have := HB.out.size; have := (Array.getElem?_eq_some_iff.1 R2.out).1; simp; omega)).trans ((Below.heap_alloc _ (.cells (Array.replicate 32 (.int .u8 0)) 5) B (Array.getElem?_eq_some_iff.1 R2.out).1).trans R2.out))
      have HLT : Aside0 (B < ((wr.alloc (.cells (Array.replicate 32 (.int .u8 0)) 5)).alloc (.cells #[.string Z] 9)).heap.size) := ⟨by have := (Array.getElem?_eq_some_iff.1 R2.out).1; simp; omega⟩
      have HNE : Aside0 (some B ≠ v.ownBlock) := ⟨by
        rcases R3.out.2 with ⟨rfl, _⟩ | ⟨g, cap, cur, rfl, _, hg, _⟩
        · simp [Value.ownBlock]
        · intro e
          simp [Value.ownBlock] at e
          rw [← e, R2.out] at hg
          cases hg⟩
      have OWB : Aside0 (∀ k, v.ownBlock = some k → B ≤ k) := ⟨fun k hk => (R3.out.lt k hk).1⟩
      have hBl : B < wr.heap.size := (Array.getElem?_eq_some_iff.1 R2.out).1
      clear hsz
      go_region_law (refine step_append_lies _ rfl (.tmp 15) (.tmp 18) 39 rfl B 9 i0 (.string ⟨#[]⟩) 1 16 Try.underlying39 hi hz0 hz1 hz2 rfl (by decide) v (List.replicate j Z).length _ (by simp [Act.eval, Act.put]) HNO.out ⟨wr.heap.size + 1, 0, none⟩ 1 1 [.string Z] (by simp [Act.eval, Act.put]) rfl (World.news_of_block HNB.out) (by intro u hu; simp at hu; subst hu; rfl) (by decide) (by simpa using hj3) (by simpa using hj2) HSZ.out _ rfl ?_; intro g cap w4 ho hg hl _; have HO4 := Aside0.mk ho; have hB4 := (hg.block B HLT.out HNE.out).trans R2B.out; have HL4 := Aside0.mk hB4; have c4 : w4.cell? ⟨B, 0, none⟩ = some v := (Lib.cell_of_heap hB4 0).trans rfl; have f4 := Lib.frozen_of_heap hB4 0; have HB4 := Aside0.mk (grown_drawn hg HB2.out rfl rfl rfl rfl HSZ.out OWB.out); clear ho hg hl hB4)
      all_goals
        have RN := Aside0.mk (ref_app HL4.out HO4.out)
        have BN := Aside0.mk (HB4.out.setCell (p := ⟨B, 0, none⟩) (Nat.le_refl _) (.slice (some ⟨g, 0, none⟩) (j + 1) cap))
        go_wp2
        exact ⟨⟨j + 1, _, by go_num, by omega, RN, BN⟩, by simp [intOf]; omega⟩
    · obtain rfl : j = k := by omega
      go_wp2
      go_ret
      rw [HBW.out]
      exact ⟨B, v, rfl, HR.out, HB.out⟩
end Go.Proofs.Yticpeniaplhpmaa.Given
