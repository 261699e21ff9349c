/- The walk of hash.take: a block taken in. -/
import Derived.Test.YtcjkichimndioabHs1
import Derived.Deep.QuietTactic
import Derived.BigQuiet
set_option linter.unusedSimpArgs false
set_option linter.unusedVariables false
namespace Go.Proofs.Ytcjkichimndioab.Given
open Go.RowKit Go.Proofs.YtcjkichimndioabW.PrintWords
def ch (b c d : Int) : Int := bits .or .u32 (bits .and .u32 b c) (bits .and .u32 (bits .xor .u32 4294967295 b) d)
def par (b c d : Int) : Int := bits .xor .u32 (bits .xor .u32 b c) d
def maj (b c d : Int) : Int := bits .or .u32 (bits .or .u32 (bits .and .u32 b c) (bits .and .u32 b d)) (bits .and .u32 c d)
def mixF (i : Nat) (b c d : Int) : Int := if i < 20 then ch b c d else if i < 40 then par b c d else if i < 60 then maj b c d else par b c d
def mixK (i : Nat) : Int := if i < 20 then 1518500249 else if i < 40 then 1859775393 else if i < 60 then 2400959708 else 3395469782
theorem mixed_calls (i : Nat) (hi : i < 80) (b c d : Int) (w : World) : Calls Try.prog 42 #[.int .i64 (i : Int), .int .u32 b, .int .u32 c, .int .u32 d] w fun e w' => e = .returned (.tuple #[.int .u32 (mixF i b c d), .int .u32 (mixK i)]) ∧ w' = w := by
  have h0 : (0 : Int) ≤ (i : Int) := by omega
  by_cases h20 : i < 20
  · rw [show mixF i b c d = ch b c d by unfold mixF; rw [if_pos h20], show mixK i = 1518500249 by unfold mixK; rw [if_pos h20]]
    have hq : (i : Int) / 20 = 0 := by omega
    clear h20 hi
    go_enter Try.func42, Try.ntmps42
    go_wp2
    go_ret2
    exact ⟨rfl, rfl⟩
  by_cases h40 : i < 40
  · rw [show mixF i b c d = par b c d by unfold mixF; rw [if_neg h20, if_pos h40], show mixK i = 1859775393 by unfold mixK; rw [if_neg h20, if_pos h40]]
    have hq : (i : Int) / 20 = 1 := by omega
    clear h20 h40 hi
    go_enter Try.func42, Try.ntmps42
    go_wp2
    go_ret2
    exact ⟨rfl, rfl⟩
  by_cases h60 : i < 60
  · rw [show mixF i b c d = maj b c d by unfold mixF; rw [if_neg h20, if_neg h40, if_pos h60], show mixK i = 2400959708 by unfold mixK; rw [if_neg h20, if_neg h40, if_pos h60]]
    have hq : (i : Int) / 20 = 2 := by omega
    clear h20 h40 h60 hi
    go_enter Try.func42, Try.ntmps42
    go_wp2
    go_ret2
    exact ⟨rfl, rfl⟩
  · rw [show mixF i b c d = par b c d by unfold mixF; rw [if_neg h20, if_neg h40, if_neg h60], show mixK i = 3395469782 by unfold mixK; rw [if_neg h20, if_neg h40, if_neg h60]]
    have hq : (i : Int) / 20 = 3 := by omega
    clear h20 h40 h60 hi
    go_enter Try.func42, Try.ntmps42
    go_wp2
    go_ret2
    exact ⟨rfl, rfl⟩
theorem grown_set {w W : World} {g : Nat} (h : w.grownBy W (some g)) (i : Nat) (v : Value) : w.grownBy (W.setCell ⟨g, i, none⟩ v) (some g) :=
  ⟨h.os, h.tape, h.output, by simpa using h.size, fun k hk hne => (Below.heap_setCell W ⟨g, i, none⟩ v k (fun e => hne (by rw [e]))).trans (h.block k hk hne)⟩
theorem grown_drew {w W : World} {r : Option Nat} (h : w.grownBy W r) : w.grownBy W.drew r := ⟨h.os, h.tape, h.output, h.size, h.block⟩
theorem grown_drewN {w W : World} {r : Option Nat} (h : w.grownBy W r) (n : Nat) : w.grownBy (W.drewN n) r := ⟨h.os, h.tape, h.output, h.size, h.block⟩
/-- A round. -/
def stp (W : List Int) (i : Nat) (s : Int × Int × Int × Int × Int) : Int × Int × Int × Int × Int :=
  ((rotl s.1 5 + mixF i s.2.1 s.2.2.1 s.2.2.2.1 + s.2.2.2.2 + mixK i + W.getD i 0) % 4294967296, s.1, rotl s.2.1 30, s.2.2.1, s.2.2.2.1)
def rnds (W : List Int) (s : Int × Int × Int × Int × Int) : Nat → Int × Int × Int × Int × Int
  | 0 => s
  | k + 1 => stp W k (rnds W s k)
/-- Five words, the first few added to. -/
def addH (a b c d e x y z u v : Int) (k : Nat) : List Int := [if 0 < k then (a + x) % 4294967296 else a, if 1 < k then (b + y) % 4294967296 else b, if 2 < k then (c + z) % 4294967296 else c, if 3 < k then (d + u) % 4294967296 else d, if 4 < k then (e + v) % 4294967296 else e]
/-- A block taken in. -/
def comp (H l : List Int) : List Int :=
  let s := rnds (sch l 64) (H.getD 0 0, H.getD 1 0, H.getD 2 0, H.getD 3 0, H.getD 4 0) 80
  addH (H.getD 0 0) (H.getD 1 0) (H.getD 2 0) (H.getD 3 0) (H.getD 4 0) s.1 s.2.1 s.2.2.1 s.2.2.2.1 s.2.2.2.2 5
theorem comp_eq (h0 h1 h2 h3 h4 : Int) (l : List Int) (a b c d e : Int) (h : rnds (sch l 64) (h0, h1, h2, h3, h4) 80 = (a, b, c, d, e)) : comp [h0, h1, h2, h3, h4] l = addH h0 h1 h2 h3 h4 a b c d e 5 := by
  have e1 : comp [h0, h1, h2, h3, h4] l = addH h0 h1 h2 h3 h4 (rnds (sch l 64) (h0, h1, h2, h3, h4) 80).1 (rnds (sch l 64) (h0, h1, h2, h3, h4) 80).2.1 (rnds (sch l 64) (h0, h1, h2, h3, h4) 80).2.2.1 (rnds (sch l 64) (h0, h1, h2, h3, h4) 80).2.2.2.1 (rnds (sch l 64) (h0, h1, h2, h3, h4) 80).2.2.2.2 5 := rfl
  rw [e1, h]
set_option maxHeartbeats 1000000 in
theorem take_calls (h0 h1 h2 h3 h4 : Int) (l : List Int) (gh g off c : Nat) (w : World) (hh : w.heap[gh]? = some (.cells (nums .u32 [h0, h1, h2, h3, h4]).toArray 52 (0, 0))) (hb : ∀ j, j < 64 → w.cell? ⟨g, off + j, none⟩ = some (.int .u8 (l.getD j 0))) :
    Calls Try.prog 30 #[.pointer (some ⟨gh, 0, none⟩), .slice (some ⟨g, off, none⟩) 64 c] w fun e w' => e = .returned (.tuple #[]) ∧ w'.heap[gh]? = some (.cells (nums .u32 (comp [h0, h1, h2, h3, h4] l)).toArray 52 (0, 0)) ∧ w.grownBy w' (some gh) := by
  obtain ⟨Z, hZ⟩ : ∃ Z, Z = (nums .u32 (List.replicate 80 0)).toArray := ⟨_, rfl⟩
  have hz : ∀ w, (zeroValue 68).run Try.prog w = .ok (.agg Z) w := by rw [hZ]; exact fun _ => by kernel_rfl
  obtain ⟨C, hC⟩ : ∃ C, C = (nums .u32 (sch l 64)).toArray := ⟨_, rfl⟩
  have HC := Aside0.mk hC
  have HZ := Aside0.mk hZ
  have HH := Aside0.mk hh
  have HB := Aside0.mk hb
  clear hC hZ hh hb
  have u68 : Aside0 (Try.prog.underlying 68 = some (.array 80 51)) := ⟨by kernel_rfl⟩
  have i51 : Aside0 ((Try.prog.info? 51).map (·.size) = some 1) := ⟨by kernel_rfl⟩
  have i68 : Aside0 ((Try.prog.info? 68).map (·.size) = some 80) := ⟨by kernel_rfl⟩
  have sz : Aside0 (C.size = 80) := ⟨by rw [HC.out]; simp [nums, sch_len]⟩
  have szZ : Aside0 (Z.size = 80) := ⟨by rw [HZ.out]; simp [nums]⟩
  have one : Aside0 (C.all (·.oneCell') = true) := ⟨by rw [HC.out]; simp [nums, Value.oneCell']⟩
  go_enter Try.func30, Try.ntmps30
  go_wp2_with (first | (go_at_call 41; refine (spread_calls l g off c _ HB.out).mono ?_; rintro e w1 ⟨rfl, hw⟩; rw [← HC.out]; have HW := Aside0.mk hw; clear hw) | ((with_reducible refine gate_store (t := 68) (p := 4) (v := .tmp 17) rfl ?_); refine store_arr 68 (.tmp 4) (.tmp 17) _ 68 Z C rfl rfl rfl rfl rfl (by rw [sz.out]; exact i68.out) (by rw [szZ.out, sz.out]) one.out (blk_new _ _) ?_))
  have A1 : Aside0 (((w1.alloc (Obj.cells Z 68)).setRow w1.heap.size C).heap[w1.heap.size]? = some (.cells C 68 (0, 0))) := ⟨setRow_heap _ _ Z C 68 (0, 0) (blk_new _ _)⟩
  have hlt : gh < w.heap.size := blk_lt HH.out
  have hw1 : w.heap.size ≤ w1.heap.size := HW.out.size
  have HB2 : Below w.heap.size w ((w1.alloc (Obj.cells Z 68)).setRow w1.heap.size C) := below_setRow (HW.out.alloc HW.out.size _) hw1 _
  have A0 : Aside0 (((w1.alloc (Obj.cells Z 68)).setRow w1.heap.size C).heap[gh]? = some (.cells (nums .u32 [h0, h1, h2, h3, h4]).toArray 52 (0, 0))) := ⟨(HB2.block gh hlt).trans HH.out⟩
  have AG : Aside0 (w.grownBy ((w1.alloc (Obj.cells Z 68)).setRow w1.heap.size C) (some gh)) := ⟨grown_of_below HB2 _⟩
  have hne : Aside0 (gh ≠ w1.heap.size) := ⟨by omega⟩
  clear HB2 HW hw1 hlt HB HH
  obtain ⟨m, hm⟩ : ∃ m, m = w1.heap.size := ⟨_, rfl⟩
  rw [← hm] at A1 A0 AG hne ⊢
  generalize (w1.alloc (Obj.cells Z 68)).setRow m C = w2 at A1 A0 AG ⊢
  clear hm
  have x0 := nums_cell A0.out 0 (by simp)
  have x1 := nums_cell A0.out 1 (by simp)
  have x2 := nums_cell A0.out 2 (by simp)
  have x3 := nums_cell A0.out 3 (by simp)
  have x4 := nums_cell A0.out 4 (by simp)
  have u52 : Try.prog.underlying 52 = some (.array 5 51) := by kernel_rfl
  have i0 := arr_index u52 i51.out gh 0 .i64 0 rfl (by omega)
  have i1 := arr_index u52 i51.out gh 1 .i64 1 rfl (by omega)
  have i2 := arr_index u52 i51.out gh 2 .i64 2 rfl (by omega)
  have i3 := arr_index u52 i51.out gh 3 .i64 3 rfl (by omega)
  have i4 := arr_index u52 i51.out gh 4 .i64 4 rfl (by omega)
  have U52 := Aside0.mk u52
  clear u52
  go_quiet (fail)
  clear x0 x1 x2 x3 x4 i0 i1 i2 i3 i4
  have A0' : Aside0 ((w2.drewN nq).heap[gh]? = some (.cells (nums .u32 [h0, h1, h2, h3, h4]).toArray 52 (0, 0))) := ⟨blk_drewN A0.out _⟩
  have A1' : Aside0 ((w2.drewN nq).heap[m]? = some (.cells C 68 (0, 0))) := ⟨blk_drewN A1.out _⟩
  have AG' : Aside0 (w.grownBy (w2.drewN nq) (some gh)) := ⟨grown_drewN AG.out _⟩
  clear A0 A1 AG
  generalize w2.drewN nq = w3 at A0' A1' AG' ⊢
  go_wp2
  go_loopw [5, 6, 7, 8, 9, 38] (fun v5 v6 v7 v8 v9 v38 wr => ∃ k : Nat, k ≤ 80 ∧ v38 = .int .i64 (k : Int) ∧ ∃ a b c d e : Int, v5 = .int .u32 a ∧ v6 = .int .u32 b ∧ v7 = .int .u32 c ∧ v8 = .int .u32 d ∧ v9 = .int .u32 e ∧ Aside0 (rnds (sch l 64) (h0, h1, h2, h3, h4) k = (a, b, c, d, e)) ∧ Aside0 (wr.heap[gh]? = some (.cells (nums .u32 [h0, h1, h2, h3, h4]).toArray 52 (0, 0))) ∧ Aside0 (wr.heap[m]? = some (.cells C 68 (0, 0))) ∧ Aside0 (w.grownBy wr (some gh))) (fun _ _ _ _ _ v38 _ => 80 - (intOf v38).toNat)
  case atStart => exact ⟨0, by omega, rfl, h0, h1, h2, h3, h4, rfl, rfl, rfl, rfl, rfl, ⟨rfl⟩, A0', A1', AG'⟩
  case round =>
    clear A0' A1' AG'
    obtain ⟨k, hk, rfl, a, b, cc, d, e, rfl, rfl, rfl, rfl, rfl, HR, R0, R1, RG⟩ := hrel
    by_cases hlt : k < 80
    · have ix := arr_index u68.out i51.out m k .i64 (k : Int) rfl (by omega)
      obtain ⟨y, hy⟩ : ∃ y, y = (sch l 64).getD k 0 := ⟨_, rfl⟩
      have cw : wr.cell? ⟨m, k, none⟩ = some (.int .u32 y) := by
        have h := R1.out
        rw [HC.out] at h
        rw [hy]
        exact nums_cell h k (by rw [sch_len]; omega)
      have HY := Aside0.mk hy
      clear hy
      go_wp2_with (go_at_call 42; refine (mixed_calls k (by omega) _ _ _ _).mono ?_; rintro e' w' ⟨rfl, rfl⟩)
      go_quiet ((go_at_call 43; exact Calls.quiet_of_same (rot5 _ _)))
      go_wp2_with (go_at_call 43; refine (rot30 _ _).mono ?_; rintro e' w' ⟨rfl, rfl⟩)
      go_roundw
      case rel => exact ⟨k + 1, by omega, by go_num, _, _, _, _, _, rfl, rfl, rfl, rfl, rfl, ⟨by rw [HY.out]; show stp _ k (rnds _ _ k) = _; rw [HR.out]; rfl⟩, ⟨blk_drewN R0.out _⟩, ⟨blk_drewN R1.out _⟩, ⟨grown_drewN RG.out _⟩⟩
      case measure => simp [intOf]; omega
    · have hk80 : k = 80 := by omega
      subst hk80
      go_wp2
      rw [show ((80 : Nat) : Int) = 80 from rfl]
      have g0 : ∀ w : World, (Instr.index 52 (.agg #[.int .u32 a, .int .u32 b, .int .u32 cc, .int .u32 d, .int .u32 e]) (.int .i64 0)).run Try.prog w = .ok (.int .u32 a) w := fun _ => by kernel_rfl
      have g1 : ∀ w : World, (Instr.index 52 (.agg #[.int .u32 a, .int .u32 b, .int .u32 cc, .int .u32 d, .int .u32 e]) (.int .i64 1)).run Try.prog w = .ok (.int .u32 b) w := fun _ => by kernel_rfl
      have g2 : ∀ w : World, (Instr.index 52 (.agg #[.int .u32 a, .int .u32 b, .int .u32 cc, .int .u32 d, .int .u32 e]) (.int .i64 2)).run Try.prog w = .ok (.int .u32 cc) w := fun _ => by kernel_rfl
      have g3 : ∀ w : World, (Instr.index 52 (.agg #[.int .u32 a, .int .u32 b, .int .u32 cc, .int .u32 d, .int .u32 e]) (.int .i64 3)).run Try.prog w = .ok (.int .u32 d) w := fun _ => by kernel_rfl
      have g4 : ∀ w : World, (Instr.index 52 (.agg #[.int .u32 a, .int .u32 b, .int .u32 cc, .int .u32 d, .int .u32 e]) (.int .i64 4)).run Try.prog w = .ok (.int .u32 e) w := fun _ => by kernel_rfl
      have R0' : Aside0 (wr.heap[gh]? = some (.cells (nums .u32 (addH h0 h1 h2 h3 h4 a b cc d e 0)).toArray 52 (0, 0))) := R0
      have i0 := arr_index U52.out i51.out gh 0 .i64 0 rfl (by omega)
      have i1 := arr_index U52.out i51.out gh 1 .i64 1 rfl (by omega)
      have i2 := arr_index U52.out i51.out gh 2 .i64 2 rfl (by omega)
      have i3 := arr_index U52.out i51.out gh 3 .i64 3 rfl (by omega)
      have i4 := arr_index U52.out i51.out gh 4 .i64 4 rfl (by omega)
      clear R0
      go_loopw [74] (fun v74 ws => ∃ k : Nat, k ≤ 5 ∧ v74 = .int .i64 (k : Int) ∧ Aside0 (ws.heap[gh]? = some (.cells (nums .u32 (addH h0 h1 h2 h3 h4 a b cc d e k)).toArray 52 (0, 0))) ∧ Aside0 (w.grownBy ws (some gh))) (fun v74 _ => 5 - (intOf v74).toNat)
      case atStart => exact ⟨0, by omega, rfl, R0', RG⟩
      case round =>
        clear R0' RG R1
        obtain ⟨k, hk, rfl, R0, RG⟩ := hrel
        have hk5 : k = 0 ∨ k = 1 ∨ k = 2 ∨ k = 3 ∨ k = 4 ∨ k = 5 := by omega
        rcases hk5 with rfl | rfl | rfl | rfl | rfl | rfl
        · have cw : wr.cell? ⟨gh, 0, none⟩ = some (.int .u32 h0) := nums_cell R0.out 0 (by simp [addH])
          have fz : wr.frozen? ⟨gh, 0, none⟩ = false := blk_frozen R0.out 0
          go_wp2
          go_still_tail 9, (by kernel_rfl)
          change wpList _ _ _ _ _ wr.drew
          have R0' := Aside0.mk (blk_drew R0.out)
          have RG' := Aside0.mk (grown_drew RG.out)
          have cw' : wr.drew.cell? ⟨gh, 0, none⟩ = some (.int .u32 h0) := nums_cell R0'.out 0 (by simp [addH])
          have fz' : wr.drew.frozen? ⟨gh, 0, none⟩ = false := blk_frozen R0'.out 0
          clear R0 RG cw fz
          generalize wr.drew = w4 at R0' RG' cw' fz' ⊢
          go_wp2
          go_roundw
          case rel => exact ⟨1, by omega, by simp, ⟨blk_put R0'.out 0 _ (by simp [addH, nums])⟩, ⟨grown_set RG'.out _ _⟩⟩
          case measure => simp [intOf]
        · have cw : wr.cell? ⟨gh, 1, none⟩ = some (.int .u32 h1) := nums_cell R0.out 1 (by simp [addH])
          have fz : wr.frozen? ⟨gh, 1, none⟩ = false := blk_frozen R0.out 1
          go_wp2
          go_still_tail 9, (by kernel_rfl)
          change wpList _ _ _ _ _ wr.drew
          have R0' := Aside0.mk (blk_drew R0.out)
          have RG' := Aside0.mk (grown_drew RG.out)
          have cw' : wr.drew.cell? ⟨gh, 1, none⟩ = some (.int .u32 h1) := nums_cell R0'.out 1 (by simp [addH])
          have fz' : wr.drew.frozen? ⟨gh, 1, none⟩ = false := blk_frozen R0'.out 1
          clear R0 RG cw fz
          generalize wr.drew = w4 at R0' RG' cw' fz' ⊢
          go_wp2
          go_roundw
          case rel => exact ⟨2, by omega, by simp, ⟨blk_put R0'.out 1 _ (by simp [addH, nums])⟩, ⟨grown_set RG'.out _ _⟩⟩
          case measure => simp [intOf]
        · have cw : wr.cell? ⟨gh, 2, none⟩ = some (.int .u32 h2) := nums_cell R0.out 2 (by simp [addH])
          have fz : wr.frozen? ⟨gh, 2, none⟩ = false := blk_frozen R0.out 2
          go_wp2
          go_still_tail 9, (by kernel_rfl)
          change wpList _ _ _ _ _ wr.drew
          have R0' := Aside0.mk (blk_drew R0.out)
          have RG' := Aside0.mk (grown_drew RG.out)
          have cw' : wr.drew.cell? ⟨gh, 2, none⟩ = some (.int .u32 h2) := nums_cell R0'.out 2 (by simp [addH])
          have fz' : wr.drew.frozen? ⟨gh, 2, none⟩ = false := blk_frozen R0'.out 2
          clear R0 RG cw fz
          generalize wr.drew = w4 at R0' RG' cw' fz' ⊢
          go_wp2
          go_roundw
          case rel => exact ⟨3, by omega, by simp, ⟨blk_put R0'.out 2 _ (by simp [addH, nums])⟩, ⟨grown_set RG'.out _ _⟩⟩
          case measure => simp [intOf]
        · have cw : wr.cell? ⟨gh, 3, none⟩ = some (.int .u32 h3) := nums_cell R0.out 3 (by simp [addH])
          have fz : wr.frozen? ⟨gh, 3, none⟩ = false := blk_frozen R0.out 3
          go_wp2
          go_still_tail 9, (by kernel_rfl)
          change wpList _ _ _ _ _ wr.drew
          have R0' := Aside0.mk (blk_drew R0.out)
          have RG' := Aside0.mk (grown_drew RG.out)
          have cw' : wr.drew.cell? ⟨gh, 3, none⟩ = some (.int .u32 h3) := nums_cell R0'.out 3 (by simp [addH])
          have fz' : wr.drew.frozen? ⟨gh, 3, none⟩ = false := blk_frozen R0'.out 3
          clear R0 RG cw fz
          generalize wr.drew = w4 at R0' RG' cw' fz' ⊢
          go_wp2
          go_roundw
          case rel => exact ⟨4, by omega, by simp, ⟨blk_put R0'.out 3 _ (by simp [addH, nums])⟩, ⟨grown_set RG'.out _ _⟩⟩
          case measure => simp [intOf]
        · have cw : wr.cell? ⟨gh, 4, none⟩ = some (.int .u32 h4) := nums_cell R0.out 4 (by simp [addH])
          have fz : wr.frozen? ⟨gh, 4, none⟩ = false := blk_frozen R0.out 4
          go_wp2
          go_still_tail 9, (by kernel_rfl)
          change wpList _ _ _ _ _ wr.drew
          have R0' := Aside0.mk (blk_drew R0.out)
          have RG' := Aside0.mk (grown_drew RG.out)
          have cw' : wr.drew.cell? ⟨gh, 4, none⟩ = some (.int .u32 h4) := nums_cell R0'.out 4 (by simp [addH])
          have fz' : wr.drew.frozen? ⟨gh, 4, none⟩ = false := blk_frozen R0'.out 4
          clear R0 RG cw fz
          generalize wr.drew = w4 at R0' RG' cw' fz' ⊢
          go_wp2
          go_roundw
          case rel => exact ⟨5, by omega, by simp, ⟨blk_put R0'.out 4 _ (by simp [addH, nums])⟩, ⟨grown_set RG'.out _ _⟩⟩
          case measure => simp [intOf]
        · go_wp2
          go_end0
          refine ⟨rfl, ?_, RG.out⟩
          rw [comp_eq _ _ _ _ _ _ _ _ _ _ _ HR.out]
          exact R0.out
end Go.Proofs.Ytcjkichimndioab.Given
