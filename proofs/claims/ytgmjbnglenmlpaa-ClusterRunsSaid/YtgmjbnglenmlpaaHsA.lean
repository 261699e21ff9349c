import Derived.Test.YtgmjbnglenmlpaaProg
import Derived.Test.YtgmjbnglenmlpaaWWords
import Derived.Test.YtgmjbnglenmlpaaWMore
import Derived.Below
import Derived.Deep.Draws
import Derived.Deep.AppendLies
import Derived.Maps.AppendAt
import Derived.OwnWalk
import Derived.Laws.MakeOwn
import Derived.Tactics
import Derived.Laws.Slices
import Derived.KernelRfl
import Derived.RowKit3
import Derived.Deep.QuietTactic
import Derived.BigQuiet
import Derived.Laws.Rows
import Derived.Laws.IdiomCopy
import Derived.Laws.BitsLemmas
import Derived.RowKit
import Derived.WalkKit
import Derived.StillTailTactics
import Derived.BigRegion
import Derived.IntWalk
import Derived.Laws.CopyOwn
import Derived.Deep.WholeRow
import Derived.Deep.DeepCutAuto
import Derived.Lib.BufferWrite
section
/- The walk of hash.spread: the words of all rounds. -/
set_option linter.unusedSimpArgs false
set_option linter.unusedVariables false
set_option maxRecDepth 100000
namespace Go.Proofs.Ytgmjbnglenmlpaa.Given
open Go.RowKit Go.Proofs.YtgmjbnglenmlpaaW.PrintWords
section
variable {P : Program} {ops : Array Oper} {rest : List Oper} {o : Oper} {a : Act} {Q : Exit → Act → World → Prop} {W : World}
theorem load_arr (t : TypeId) (p : Operand) (g n : Nat) (e t' : TypeId) (cs : Array Value) (hgd : o.guard = none) (ho : o.op = .load t p) (hp : a.eval p = .pointer (some ⟨g, 0, none⟩)) (hu : P.underlying t = some (.array n e))
    (hi : (P.info? t).map (·.size) = some cs.size) (hg : W.heap[g]? = some (.cells cs t' (0, 0))) (h : wpList P ops Q rest (a.put o.dst (.agg cs)) W) : wpList P ops Q (o :: rest) a W := by
  refine Kd.event_run hgd ?_ h
  have hl := run_loadVar_row (P := P) W g t' t cs (0, 0) _ hg hu rfl hi
  simp [execOp, ho, hp, Instr.loadAt, Instr.sureAddr, hl, Result.andThen]
theorem store_arr (t : TypeId) (p x : Operand) (g : Nat) (t' : TypeId) (old cs : Array Value) (hgd : o.guard = none) (hd : o.dst = none) (ho : o.op = .store t p x) (hp : a.eval p = .pointer (some ⟨g, 0, none⟩)) (hx : a.eval x = .agg cs)
    (hi : (P.info? t).map (·.size) = some cs.size) (hs : old.size = cs.size) (h1 : cs.all (·.oneCell') = true) (hg : W.heap[g]? = some (.cells old t' (0, 0))) (h : wpList P ops Q rest a (W.setRow g cs)) : wpList P ops Q (o :: rest) a W := by
  refine wpList_plain hgd fun K hK => ?_
  have hl := run_storeVar_row (P := P) W g t' t old cs hg hi hs h1
  unfold Oper.wp
  simp [execOp, ho, hp, hx, Instr.storeAt, Instr.sureAddr, hl, Result.andThen]
  exact hK _ _ (by rw [hd]; exact h)
theorem results_cell {fn : Func} {p : Tmp} {ty : TypeId} (h : fn.results = #[.cell p ty]) (tmps : Array Value) (P : Program) (w : World) :
    (results fn tmps).run P w = ((asAddr (tmps.getD p undef)).run P w).andThen fun a w1 => (loadVar ty a).run P w1 := by
  simp only [results, h]
  simp [Sem.run_bind, Result.andThen]
end
def rotl (x : Int) (k : Nat) : Int := bits .or .u32 (IntKind.u32.wrap (x * 2 ^ k)) (x / 2 ^ (32 - k))
theorem rot1 (x : Int) (w : World) : Calls Try.prog 58 #[.int .u32 x, .int .i64 1] w fun e w' => e = .returned (.int .u32 (rotl x 1)) ∧ w' = w := by
  have h1 : bits .and .u64 1 31 = 1 := by decide
  go_enter Try.func58, Try.ntmps58
  go_wp2
  go_ret
  exact ⟨rfl, rfl⟩
theorem rot5 (x : Int) (w : World) : Calls Try.prog 58 #[.int .u32 x, .int .i64 5] w fun e w' => e = .returned (.int .u32 (rotl x 5)) ∧ w' = w := by
  have h1 : bits .and .u64 5 31 = 5 := by decide
  go_enter Try.func58, Try.ntmps58
  go_wp2
  go_ret
  exact ⟨rfl, rfl⟩
theorem rot30 (x : Int) (w : World) : Calls Try.prog 58 #[.int .u32 x, .int .i64 30] w fun e w' => e = .returned (.int .u32 (rotl x 30)) ∧ w' = w := by
  have h1 : bits .and .u64 30 31 = 30 := by decide
  go_enter Try.func58, Try.ntmps58
  go_wp2
  go_ret
  exact ⟨rfl, rfl⟩
theorem arr_index {P : Program} {T E n : Nat} (hu : P.underlying T = some (.array n E)) (hs : (P.info? E).map (·.size) = some 1) (g i : Nat) (k : IntKind) (x : Int) (hx : x = i) (hi : i < n) (w : World) :
    (Instr.indexAt T (.pointer (some ⟨g, 0, none⟩)) (.int k x)).run P w = .ok (.pointer (some ⟨g, i, none⟩)) w := by
  subst hx
  obtain ⟨inf, h1, h2⟩ := Option.map_eq_some_iff.1 hs
  simp [Instr.indexAt, go_sem, run_underlying hu, sizeOf, typeInfo, h1, h2, Instr.sureAddr, hi]
/-- A word of four bytes. -/
def wd (x0 x1 x2 x3 : Int) : Int := bits .or .u32 (bits .or .u32 (bits .or .u32 (IntKind.u32.wrap (IntKind.u32.wrap x0 * 16777216)) (IntKind.u32.wrap (IntKind.u32.wrap x1 * 65536))) (IntKind.u32.wrap (IntKind.u32.wrap x2 * 256))) (IntKind.u32.wrap x3)
def word (l : List Int) (i : Nat) : Int := wd (l.getD (4 * i) 0) (l.getD (4 * i + 1) 0) (l.getD (4 * i + 2) 0) (l.getD (4 * i + 3) 0)
def W16 (l : List Int) (k : Nat) : List Int := (List.range k).map (word l) ++ List.replicate (80 - k) 0
theorem W16_next (l : List Int) (k : Nat) (hk : k < 80) : ((nums .u32 (W16 l k)).toArray).setIfInBounds k (.int .u32 (word l k)) = (nums .u32 (W16 l (k + 1))).toArray := by
  have e : (W16 l k).set k (word l k) = W16 l (k + 1) := by
    unfold W16
    rw [List.set_append_right _ _ (by simp), List.range_succ, List.map_append, List.append_assoc]
    congr 1
    obtain ⟨d, hd⟩ : ∃ d, 80 - k = d + 1 := ⟨79 - k, by omega⟩
    rw [hd, show 80 - (k + 1) = d by omega]
    simp [List.replicate_succ]
  rw [← e]
  simp [nums, List.map_set]
/-- The words of all rounds: the first 16, m more. -/
def sch (l : List Int) : Nat → List Int
  | 0 => (List.range 16).map (word l)
  | m + 1 => sch l m ++ [rotl (bits .xor .u32 (bits .xor .u32 (bits .xor .u32 ((sch l m).getD (m + 13) 0) ((sch l m).getD (m + 8) 0)) ((sch l m).getD (m + 2) 0)) ((sch l m).getD m 0)) 1]
theorem sch_len (l : List Int) (m : Nat) : (sch l m).length = 16 + m := by
  induction m with
  | zero => simp [sch]
  | succ m ih => simp [sch, ih]; omega
def W80 (l : List Int) (m : Nat) : List Int := sch l m ++ List.replicate (64 - m) 0
theorem W80_len (l : List Int) (m : Nat) (h : m ≤ 64) : (W80 l m).length = 80 := by simp [W80, sch_len]; omega
theorem W80_at (l : List Int) (m i : Nat) (h : i < 16 + m) : (W80 l m).getD i 0 = (sch l m).getD i 0 := by
  unfold W80
  rw [List.getD_eq_getElem?_getD, List.getD_eq_getElem?_getD, List.getElem?_append_left (by rw [sch_len]; exact h)]
theorem W80_next (l : List Int) (m : Nat) (hm : m < 64) : ((nums .u32 (W80 l m)).toArray).setIfInBounds (16 + m) (.int .u32 (rotl (bits .xor .u32 (bits .xor .u32 (bits .xor .u32 ((sch l m).getD (m + 13) 0) ((sch l m).getD (m + 8) 0)) ((sch l m).getD (m + 2) 0)) ((sch l m).getD m 0)) 1)) = (nums .u32 (W80 l (m + 1))).toArray := by
  have e : (W80 l m).set (16 + m) (rotl (bits .xor .u32 (bits .xor .u32 (bits .xor .u32 ((sch l m).getD (m + 13) 0) ((sch l m).getD (m + 8) 0)) ((sch l m).getD (m + 2) 0)) ((sch l m).getD m 0)) 1) = W80 l (m + 1) := by
    unfold W80
    rw [List.set_append_right _ _ (by rw [sch_len]; omega), sch_len, sch, List.append_assoc]
    congr 1
    obtain ⟨d, hd⟩ : ∃ d, 64 - m = d + 1 := ⟨63 - m, by omega⟩
    rw [hd, show 64 - (m + 1) = d by omega]
    simp [List.replicate_succ]
  rw [← e]
  simp [nums, List.map_set]
theorem nums_cell {w : World} {g : Nat} {t : TypeId} {k : IntKind} {l : List Int} (h : w.heap[g]? = some (.cells ((nums k l).toArray) t (0, 0))) (j : Nat) (hj : j < l.length) : w.cell? ⟨g, j, none⟩ = some (.int k (l.getD j 0)) := by
  rw [blk_cell h j]
  simp [nums, hj, List.getD_eq_getElem?_getD]
theorem spread_calls (l : List Int) (g off c : Nat) (w : World) (hb : ∀ j, j < 64 → w.cell? ⟨g, off + j, none⟩ = some (.int .u8 (l.getD j 0))) :
    Calls Try.prog 56 #[.slice (some ⟨g, off, none⟩) 64 c] w fun e w' => e = .returned (.agg (nums .u32 (sch l 64)).toArray) ∧ Below w.heap.size w w' := by
  obtain ⟨C, hC⟩ : ∃ C, C = (nums .u32 (sch l 64)).toArray := ⟨_, rfl⟩
  rw [← hC]
  have HC := Aside0.mk hC
  clear hC
  have u68 : Try.prog.underlying 63 = some (.array 80 42) := by kernel_rfl
  have i51 : (Try.prog.info? 42).map (·.size) = some 1 := by kernel_rfl
  have HB := Aside0.mk hb
  have U := Aside0.mk u68
  have I := Aside0.mk i51
  clear hb u68 i51
  obtain ⟨Z, hZ⟩ : ∃ Z, Z = (nums .u32 (List.replicate 80 0)).toArray := ⟨_, rfl⟩
  have hz : ∀ w, (zeroValue 63).run Try.prog w = .ok (.agg Z) w := by rw [hZ]; exact fun _ => by kernel_rfl
  have HZ := Aside0.mk hZ
  clear hZ
  go_enter Try.func56, Try.ntmps56
  go_wp2
  have B0 : (((w.alloc (Obj.cells Z 63)).alloc (Obj.cells Z 63)).heap[w.heap.size]? = some (.cells Z 63 (0, 0))) := blk_alloc (blk_new _ _) _
  have B1 : (((w.alloc (Obj.cells Z 63)).alloc (Obj.cells Z 63)).heap[w.heap.size + 1]? = some (.cells Z 63 (0, 0))) := by
    have := blk_new (w.alloc (Obj.cells Z 63)) (Obj.cells Z 63)
    simpa using this
  have HB0 : Below w.heap.size w ((w.alloc (Obj.cells Z 63)).alloc (Obj.cells Z 63)) := below_alloc (below_alloc (Below.refl _ _) _) _
  have B1' : (((w.alloc (Obj.cells Z 63)).alloc (Obj.cells Z 63)).heap[w.heap.size + 1]? = some (.cells (nums .u32 (W16 l 0)).toArray 63 (0, 0))) := by rw [B1, HZ.out]; simp [W16]
  have A0 := Aside0.mk B0
  have A1 := Aside0.mk B1'
  have A2 := Aside0.mk HB0
  clear B0 B1 B1' HB0
  generalize (w.alloc (Obj.cells Z 63)).alloc (Obj.cells Z 63) = W at A0 A1 A2
  obtain ⟨n, hn⟩ : ∃ n, n = w.heap.size := ⟨_, rfl⟩
  rw [← hn] at A0 A1 A2 ⊢
  have HN := Aside0.mk hn
  clear hn
  go_loopw [6] (fun v6 wr => ∃ k : Nat, k ≤ 16 ∧ v6 = .int .i64 k ∧ Aside0 (wr.heap[n + 1]? = some (.cells (nums .u32 (W16 l k)).toArray 63 (0, 0))) ∧ Aside0 (wr.heap[n]? = some (.cells Z 63 (0, 0))) ∧ Aside0 (Below n w wr)) (fun v6 _ => 16 - (intOf v6).toNat)
  case atStart => exact ⟨0, by omega, rfl, A1, A0, A2⟩
  case round =>
    obtain ⟨k, hk, rfl, R1, R0, RB⟩ := hrel
    by_cases hlt : k < 16
    · have ix := arr_index U.out I.out (n + 1) k .i64 (k : Int) rfl (by omega)
      have hcell : ∀ j, j < 64 → wr.cell? ⟨g, off + j, none⟩ = some (.int .u8 (l.getD j 0)) := fun j hj => by
        have h1 := HB.out j hj
        have h2 := World.block_lt_of_cell? w _ h1
        rw [← HN.out] at h2
        exact (RB.out.cell h2).trans h1
      have c0 := hcell (4 * k) (by omega)
      have c1 := hcell (4 * k + 1) (by omega)
      have c2 := hcell (4 * k + 2) (by omega)
      have c3 := hcell (4 * k + 3) (by omega)
      obtain ⟨x0, hx0⟩ : ∃ x, x = l.getD (4 * k) 0 := ⟨_, rfl⟩
      obtain ⟨x1, hx1⟩ : ∃ x, x = l.getD (4 * k + 1) 0 := ⟨_, rfl⟩
      obtain ⟨x2, hx2⟩ : ∃ x, x = l.getD (4 * k + 2) 0 := ⟨_, rfl⟩
      obtain ⟨x3, hx3⟩ : ∃ x, x = l.getD (4 * k + 3) 0 := ⟨_, rfl⟩
      rw [← hx0] at c0
      rw [← hx1] at c1
      rw [← hx2] at c2
      rw [← hx3] at c3
      have HX0 := Aside0.mk hx0
      have HX1 := Aside0.mk hx1
      have HX2 := Aside0.mk hx2
      have HX3 := Aside0.mk hx3
      clear hx0 hx1 hx2 hx3 hcell
      have fz : wr.frozen? ⟨n + 1, k, none⟩ = false := blk_frozen R1.out k
      have p0 : (0 : Int) ≤ 4 * (k : Int) := by omega
      have p1 : (0 : Int) ≤ 4 * (k : Int) + 1 := by omega
      have p2 : (0 : Int) ≤ 4 * (k : Int) + 2 := by omega
      have p3 : (0 : Int) ≤ 4 * (k : Int) + 3 := by omega
      have q0 : 4 * (k : Int) < 64 := by omega
      have q1 : 4 * (k : Int) + 1 < 64 := by omega
      have q2 : 4 * (k : Int) + 2 < 64 := by omega
      have q3 : 4 * (k : Int) + 3 < 64 := by omega
      have t0 : (4 * (k : Int)).toNat = 4 * k := by omega
      have t1 : (4 * (k : Int) + 1).toNat = 4 * k + 1 := by omega
      have t2 : (4 * (k : Int) + 2).toNat = 4 * k + 2 := by omega
      have t3 : (4 * (k : Int) + 3).toNat = 4 * k + 3 := by omega
      go_wp2
      have w0 : IntKind.i64.wrap (4 * (k : Int)) = 4 * (k : Int) := IntWalk.i64_in _ (by omega)
      have w1 : IntKind.i64.wrap (4 * (k : Int) + 1) = 4 * (k : Int) + 1 := IntWalk.i64_in _ (by omega)
      have w2 : IntKind.i64.wrap (4 * (k : Int) + 2) = 4 * (k : Int) + 2 := IntWalk.i64_in _ (by omega)
      have w3 : IntKind.i64.wrap (4 * (k : Int) + 3) = 4 * (k : Int) + 3 := IntWalk.i64_in _ (by omega)
      go_still_tail 35, (by kernel_rfl)
      change wpList _ _ _ _ _ wr.drew
      clear w0 w1 w2 w3 t0 t1 t2 t3 p0 p1 p2 p3 q0 q1 q2 q3
      generalize hy : bits BinOp.or IntKind.u32 (bits .or .u32 (bits .or .u32 (IntKind.u32.wrap (IntKind.u32.wrap x0 * 16777216)) (IntKind.u32.wrap (IntKind.u32.wrap x1 * 65536))) (IntKind.u32.wrap (IntKind.u32.wrap x2 * 256))) (IntKind.u32.wrap x3) = y
      have HY : Aside0 (word l k = y) := ⟨by unfold word wd; rw [← HX0.out, ← HX1.out, ← HX2.out, ← HX3.out]; exact hy⟩
      clear hy c0 c1 c2 c3
      have R1' := Aside0.mk (blk_drew R1.out)
      have R0' := Aside0.mk (blk_drew R0.out)
      have RB' := Aside0.mk (below_drew RB.out)
      have fz' : wr.drew.frozen? ⟨n + 1, k, none⟩ = false := blk_frozen R1'.out k
      clear R1 R0 RB fz
      generalize wr.drew = w4 at R1' R0' RB' fz' ⊢
      obtain ⟨v0, cw⟩ : ∃ v, w4.cell? ⟨n + 1, k, none⟩ = some v := ⟨_, by rw [blk_cell R1'.out]; exact Array.getElem?_eq_getElem (by simp [nums, W16]; omega)⟩
      go_wp2
      go_roundw
      case rel => exact ⟨k + 1, by omega, by go_num, ⟨by rw [← HY.out]; exact blk_put R1'.out k _ (W16_next l k (by omega))⟩, ⟨blk_far R0'.out (by simp) _⟩, ⟨RB'.out.setCell (by simp) _⟩⟩
      case measure => simp [intOf]; omega
    · have hk16 : k = 16 := by omega
      subst hk16
      have R1' : Aside0 (wr.heap[n + 1]? = some (.cells (nums .u32 (W80 l 0)).toArray 63 (0, 0))) := R1
      clear R1
      go_wp2
      rw [show ((16 : Nat) : Int) = 16 from rfl]
      go_loopw [5] (fun v5 w5 => ∃ j : Nat, 16 ≤ j ∧ j ≤ 80 ∧ v5 = .int .i64 (j : Int) ∧ Aside0 (w5.heap[n + 1]? = some (.cells (nums .u32 (W80 l (j - 16))).toArray 63 (0, 0))) ∧ Aside0 (w5.heap[n]? = some (.cells Z 63 (0, 0))) ∧ Aside0 (Below n w w5)) (fun v5 _ => 80 - (intOf v5).toNat)
      case atStart => exact ⟨16, by omega, by omega, rfl, R1', R0, RB⟩
      case round =>
        clear R1' R0 RB
        obtain ⟨j, hj16, hj80, rfl, R1, R0, RB⟩ := hrel
        by_cases hlt : j < 80
        · obtain ⟨m, hm⟩ : ∃ m, m = j - 16 := ⟨_, rfl⟩
          rw [← hm] at R1
          have hjm : j = 16 + m := by omega
          have HM := Aside0.mk hjm
          clear hm hjm
          have hm64 : m < 64 := by have := HM.out; omega
          have at_ : ∀ i, i < 16 + m → wr.cell? ⟨n + 1, i, none⟩ = some (.int .u32 ((sch l m).getD i 0)) := fun i hi => by
            rw [← W80_at l m i hi]
            exact nums_cell R1.out i (by rw [W80_len l m (by omega)]; omega)
          have c13 := at_ (m + 13) (by omega)
          have c8 := at_ (m + 8) (by omega)
          have c2 := at_ (m + 2) (by omega)
          have c0 := at_ m (by omega)
          clear at_
          obtain ⟨y13, h13⟩ : ∃ y, y = (sch l m).getD (m + 13) 0 := ⟨_, rfl⟩
          obtain ⟨y8, h8⟩ : ∃ y, y = (sch l m).getD (m + 8) 0 := ⟨_, rfl⟩
          obtain ⟨y2, h2⟩ : ∃ y, y = (sch l m).getD (m + 2) 0 := ⟨_, rfl⟩
          obtain ⟨y0, h0⟩ : ∃ y, y = (sch l m).getD m 0 := ⟨_, rfl⟩
          rw [← h13] at c13
          rw [← h8] at c8
          rw [← h2] at c2
          rw [← h0] at c0
          have H13 := Aside0.mk h13
          have H8 := Aside0.mk h8
          have H2 := Aside0.mk h2
          have H0 := Aside0.mk h0
          clear h13 h8 h2 h0
          have i3 := arr_index U.out I.out (n + 1) (m + 13) .i64 ((j : Int) - 3) (by have := HM.out; omega) (by omega)
          have i8 := arr_index U.out I.out (n + 1) (m + 8) .i64 ((j : Int) - 8) (by have := HM.out; omega) (by omega)
          have i14 := arr_index U.out I.out (n + 1) (m + 2) .i64 ((j : Int) - 14) (by have := HM.out; omega) (by omega)
          have i16 := arr_index U.out I.out (n + 1) m .i64 ((j : Int) - 16) (by have := HM.out; omega) (by omega)
          have ij := arr_index U.out I.out (n + 1) j .i64 (j : Int) rfl (by omega)
          go_wp2
          have w3 : IntKind.i64.wrap ((j : Int) - 3) = (j : Int) - 3 := IntWalk.i64_in _ (by omega)
          have w8 : IntKind.i64.wrap ((j : Int) - 8) = (j : Int) - 8 := IntWalk.i64_in _ (by omega)
          have w14 : IntKind.i64.wrap ((j : Int) - 14) = (j : Int) - 14 := IntWalk.i64_in _ (by omega)
          have w16 : IntKind.i64.wrap ((j : Int) - 16) = (j : Int) - 16 := IntWalk.i64_in _ (by omega)
          refine wp_region_still_tail 22 (by kernel_rfl) (by kernel_rfl) ?_
          simp only [List.take_succ_cons, List.take_zero, List.drop_succ_cons, List.drop_zero]
          repeat still_step
          still_call (rot1 _ _)
          repeat still_step
          try refine wpStill_nil ?_
          change wpList _ _ _ _ _ wr.drew
          generalize hy : rotl (bits .xor .u32 (bits .xor .u32 (bits .xor .u32 y13 y8) y2) y0) 1 = y
          have HY : Aside0 (rotl (bits .xor .u32 (bits .xor .u32 (bits .xor .u32 ((sch l m).getD (m + 13) 0) ((sch l m).getD (m + 8) 0)) ((sch l m).getD (m + 2) 0)) ((sch l m).getD m 0)) 1 = y) := ⟨by rw [← H13.out, ← H8.out, ← H2.out, ← H0.out]; exact hy⟩
          clear hy c13 c8 c2 c0 w3 w8 w14 w16 i3 i8 i14 i16
          have R1' := Aside0.mk (blk_drew R1.out)
          have R0' := Aside0.mk (blk_drew R0.out)
          have RB' := Aside0.mk (below_drew RB.out)
          clear R1 R0 RB
          have fz' : wr.drew.frozen? ⟨n + 1, j, none⟩ = false := blk_frozen R1'.out j
          generalize wr.drew = w4 at R1' R0' RB' fz' ⊢
          obtain ⟨v0, cw⟩ : ∃ v, w4.cell? ⟨n + 1, j, none⟩ = some v := ⟨_, nums_cell R1'.out j (by rw [W80_len l m (by omega)]; omega)⟩
          go_wp2
          go_roundw
          case rel => exact ⟨j + 1, by omega, by omega, by go_num, ⟨by rw [← HY.out, show j + 1 - 16 = m + 1 by have := HM.out; omega]; exact blk_put R1'.out j _ (by rw [HM.out]; exact W80_next l m hm64)⟩, ⟨blk_far R0'.out (by simp) _⟩, ⟨RB'.out.setCell (by simp) _⟩⟩
          case measure => simp [intOf]; omega
        · have hj : j = 80 := by omega
          subst hj
          have R1' : Aside0 (wr.heap[n + 1]? = some (.cells (nums .u32 (sch l 64)).toArray 63 (0, 0))) := by
            have : W80 l 64 = sch l 64 := by simp [W80]
            rw [← this]
            exact R1
          have i68 : (Try.prog.info? 63).map (·.size) = some 80 := by kernel_rfl
          have sz : (nums .u32 (sch l 64)).toArray.size = 80 := by simp [nums, sch_len]
          have szZ : Z.size = 80 := by rw [HZ.out]; simp [nums]
          have one : (nums .u32 (sch l 64)).toArray.all (·.oneCell') = true := by simp [nums, Value.oneCell']
          have I68 := Aside0.mk i68
          have SZ := Aside0.mk sz
          have SZZ := Aside0.mk szZ
          have ONE := Aside0.mk one
          clear i68 sz szZ one R1
          rw [← HC.out] at R1' SZ ONE
          go_wp2_with (first | ((with_reducible refine gate_dst (N := 71) rfl ?_); refine load_arr 63 (.tmp 3) (n + 1) 80 42 63 C rfl rfl rfl U.out (by rw [SZ.out]; exact I68.out) R1'.out ?_) | ((with_reducible refine gate_store (t := 63) (p := 2) (v := .tmp 71) rfl ?_); refine store_arr 63 (.tmp 2) (.tmp 71) n 63 Z C rfl rfl rfl rfl rfl (by rw [SZ.out]; exact I68.out) (by rw [SZ.out, SZZ.out]) ONE.out R0.out ?_))
          have RC := setRow_heap wr n Z C 63 (0, 0) R0.out
          refine bodyPost_ret (v := .agg C) ?_ rfl ⟨rfl, ?_⟩
          · rw [results_cell rfl]
            exact run_loadVar_row (P := Try.prog) (wr.setRow n C) n 63 63 C (0, 0) _ RC U.out rfl (by rw [SZ.out]; exact I68.out)
          · rw [← HN.out]
            exact below_setRow RB.out (Nat.le_refl _) _
end Go.Proofs.Ytgmjbnglenmlpaa.Given
end
section
/- The walk of hash.take: a block taken in. -/
set_option linter.unusedSimpArgs false
set_option linter.unusedVariables false
set_option maxRecDepth 100000
namespace Go.Proofs.Ytgmjbnglenmlpaa.Given
open Go.RowKit Go.Proofs.YtgmjbnglenmlpaaW.PrintWords
def ch (b c d : Int) : Int := bits .or .u32 (bits .and .u32 b c) (bits .and .u32 (bits .xor .u32 4294967295 b) d)
def par (b c d : Int) : Int := bits .xor .u32 (bits .xor .u32 b c) d
def maj (b c d : Int) : Int := bits .or .u32 (bits .or .u32 (bits .and .u32 b c) (bits .and .u32 b d)) (bits .and .u32 c d)
def mixF (i : Nat) (b c d : Int) : Int := if i < 20 then ch b c d else if i < 40 then par b c d else if i < 60 then maj b c d else par b c d
def mixK (i : Nat) : Int := if i < 20 then 1518500249 else if i < 40 then 1859775393 else if i < 60 then 2400959708 else 3395469782
theorem mixed_calls (i : Nat) (hi : i < 80) (b c d : Int) (w : World) : Calls Try.prog 57 #[.int .i64 (i : Int), .int .u32 b, .int .u32 c, .int .u32 d] w fun e w' => e = .returned (.tuple #[.int .u32 (mixF i b c d), .int .u32 (mixK i)]) ∧ w' = w := by
  have h0 : (0 : Int) ≤ (i : Int) := by omega
  by_cases h20 : i < 20
  · rw [show mixF i b c d = ch b c d by unfold mixF; rw [if_pos h20], show mixK i = 1518500249 by unfold mixK; rw [if_pos h20]]
    have hq : (i : Int) / 20 = 0 := by omega
    clear h20 hi
    go_enter Try.func57, Try.ntmps57
    go_wp2
    go_ret2
    exact ⟨rfl, rfl⟩
  by_cases h40 : i < 40
  · rw [show mixF i b c d = par b c d by unfold mixF; rw [if_neg h20, if_pos h40], show mixK i = 1859775393 by unfold mixK; rw [if_neg h20, if_pos h40]]
    have hq : (i : Int) / 20 = 1 := by omega
    clear h20 h40 hi
    go_enter Try.func57, Try.ntmps57
    go_wp2
    go_ret2
    exact ⟨rfl, rfl⟩
  by_cases h60 : i < 60
  · rw [show mixF i b c d = maj b c d by unfold mixF; rw [if_neg h20, if_neg h40, if_pos h60], show mixK i = 2400959708 by unfold mixK; rw [if_neg h20, if_neg h40, if_pos h60]]
    have hq : (i : Int) / 20 = 2 := by omega
    clear h20 h40 h60 hi
    go_enter Try.func57, Try.ntmps57
    go_wp2
    go_ret2
    exact ⟨rfl, rfl⟩
  · rw [show mixF i b c d = par b c d by unfold mixF; rw [if_neg h20, if_neg h40, if_neg h60], show mixK i = 3395469782 by unfold mixK; rw [if_neg h20, if_neg h40, if_neg h60]]
    have hq : (i : Int) / 20 = 3 := by omega
    clear h20 h40 h60 hi
    go_enter Try.func57, Try.ntmps57
    go_wp2
    go_ret2
    exact ⟨rfl, rfl⟩
theorem grown_set {w W : World} {g : Nat} (h : w.grownBy W (some g)) (i : Nat) (v : Value) : w.grownBy (W.setCell ⟨g, i, none⟩ v) (some g) :=
  ⟨h.os, h.tape, h.output, by simpa using h.size, fun k hk hne => (Below.heap_setCell W ⟨g, i, none⟩ v k (fun e => hne (by rw [e]))).trans (h.block k hk hne)⟩
theorem grown_drew {w W : World} {r : Option Nat} (h : w.grownBy W r) : w.grownBy W.drew r := ⟨h.os, h.tape, h.output, h.size, h.block⟩
theorem grown_drewN {w W : World} {r : Option Nat} (h : w.grownBy W r) (n : Nat) : w.grownBy (W.drewN n) r := ⟨h.os, h.tape, h.output, h.size, h.block⟩
/-- A round. -/
def stp (W : List Int) (i : Nat) (s : Int × Int × Int × Int × Int) : Int × Int × Int × Int × Int :=
  ((rotl s.1 5 + mixF i s.2.1 s.2.2.1 s.2.2.2.1 + s.2.2.2.2 + mixK i + W.getD i 0) % 4294967296, s.1, rotl s.2.1 30, s.2.2.1, s.2.2.2.1)
def rnds (W : List Int) (s : Int × Int × Int × Int × Int) : Nat → Int × Int × Int × Int × Int
  | 0 => s
  | k + 1 => stp W k (rnds W s k)
/-- Five words, the first few added to. -/
def addH (a b c d e x y z u v : Int) (k : Nat) : List Int := [if 0 < k then (a + x) % 4294967296 else a, if 1 < k then (b + y) % 4294967296 else b, if 2 < k then (c + z) % 4294967296 else c, if 3 < k then (d + u) % 4294967296 else d, if 4 < k then (e + v) % 4294967296 else e]
/-- A block taken in. -/
def comp (H l : List Int) : List Int :=
  let s := rnds (sch l 64) (H.getD 0 0, H.getD 1 0, H.getD 2 0, H.getD 3 0, H.getD 4 0) 80
  addH (H.getD 0 0) (H.getD 1 0) (H.getD 2 0) (H.getD 3 0) (H.getD 4 0) s.1 s.2.1 s.2.2.1 s.2.2.2.1 s.2.2.2.2 5
theorem comp_eq (h0 h1 h2 h3 h4 : Int) (l : List Int) (a b c d e : Int) (h : rnds (sch l 64) (h0, h1, h2, h3, h4) 80 = (a, b, c, d, e)) : comp [h0, h1, h2, h3, h4] l = addH h0 h1 h2 h3 h4 a b c d e 5 := by
  have e1 : comp [h0, h1, h2, h3, h4] l = addH h0 h1 h2 h3 h4 (rnds (sch l 64) (h0, h1, h2, h3, h4) 80).1 (rnds (sch l 64) (h0, h1, h2, h3, h4) 80).2.1 (rnds (sch l 64) (h0, h1, h2, h3, h4) 80).2.2.1 (rnds (sch l 64) (h0, h1, h2, h3, h4) 80).2.2.2.1 (rnds (sch l 64) (h0, h1, h2, h3, h4) 80).2.2.2.2 5 := rfl
  rw [e1, h]
set_option maxHeartbeats 1000000 in
theorem take_calls (h0 h1 h2 h3 h4 : Int) (l : List Int) (gh g off c : Nat) (w : World) (hh : w.heap[gh]? = some (.cells (nums .u32 [h0, h1, h2, h3, h4]).toArray 43 (0, 0))) (hb : ∀ j, j < 64 → w.cell? ⟨g, off + j, none⟩ = some (.int .u8 (l.getD j 0))) :
    Calls Try.prog 50 #[.pointer (some ⟨gh, 0, none⟩), .slice (some ⟨g, off, none⟩) 64 c] w fun e w' => e = .returned (.tuple #[]) ∧ w'.heap[gh]? = some (.cells (nums .u32 (comp [h0, h1, h2, h3, h4] l)).toArray 43 (0, 0)) ∧ w.grownBy w' (some gh) := by
  obtain ⟨Z, hZ⟩ : ∃ Z, Z = (nums .u32 (List.replicate 80 0)).toArray := ⟨_, rfl⟩
  have hz : ∀ w, (zeroValue 63).run Try.prog w = .ok (.agg Z) w := by rw [hZ]; exact fun _ => by kernel_rfl
  obtain ⟨C, hC⟩ : ∃ C, C = (nums .u32 (sch l 64)).toArray := ⟨_, rfl⟩
  have HC := Aside0.mk hC
  have HZ := Aside0.mk hZ
  have HH := Aside0.mk hh
  have HB := Aside0.mk hb
  clear hC hZ hh hb
  have u68 : Aside0 (Try.prog.underlying 63 = some (.array 80 42)) := ⟨by kernel_rfl⟩
  have i51 : Aside0 ((Try.prog.info? 42).map (·.size) = some 1) := ⟨by kernel_rfl⟩
  have i68 : Aside0 ((Try.prog.info? 63).map (·.size) = some 80) := ⟨by kernel_rfl⟩
  have sz : Aside0 (C.size = 80) := ⟨by rw [HC.out]; simp [nums, sch_len]⟩
  have szZ : Aside0 (Z.size = 80) := ⟨by rw [HZ.out]; simp [nums]⟩
  have one : Aside0 (C.all (·.oneCell') = true) := ⟨by rw [HC.out]; simp [nums, Value.oneCell']⟩
  go_enter Try.func50, Try.ntmps50
  go_wp2_with (first | (go_at_call 56; refine (spread_calls l g off c _ HB.out).mono ?_; rintro e w1 ⟨rfl, hw⟩; rw [← HC.out]; have HW := Aside0.mk hw; clear hw) | ((with_reducible refine gate_store (t := 63) (p := 4) (v := .tmp 17) rfl ?_); refine store_arr 63 (.tmp 4) (.tmp 17) _ 63 Z C rfl rfl rfl rfl rfl (by rw [sz.out]; exact i68.out) (by rw [szZ.out, sz.out]) one.out (blk_new _ _) ?_))
  have A1 : Aside0 (((w1.alloc (Obj.cells Z 63)).setRow w1.heap.size C).heap[w1.heap.size]? = some (.cells C 63 (0, 0))) := ⟨setRow_heap _ _ Z C 63 (0, 0) (blk_new _ _)⟩
  have hlt : gh < w.heap.size := blk_lt HH.out
  have hw1 : w.heap.size ≤ w1.heap.size := HW.out.size
  have HB2 : Below w.heap.size w ((w1.alloc (Obj.cells Z 63)).setRow w1.heap.size C) := below_setRow (HW.out.alloc HW.out.size _) hw1 _
  have A0 : Aside0 (((w1.alloc (Obj.cells Z 63)).setRow w1.heap.size C).heap[gh]? = some (.cells (nums .u32 [h0, h1, h2, h3, h4]).toArray 43 (0, 0))) := ⟨(HB2.block gh hlt).trans HH.out⟩
  have AG : Aside0 (w.grownBy ((w1.alloc (Obj.cells Z 63)).setRow w1.heap.size C) (some gh)) := ⟨grown_of_below HB2 _⟩
  have hne : Aside0 (gh ≠ w1.heap.size) := ⟨by omega⟩
  clear HB2 HW hw1 hlt HB HH
  obtain ⟨m, hm⟩ : ∃ m, m = w1.heap.size := ⟨_, rfl⟩
  rw [← hm] at A1 A0 AG hne ⊢
  generalize (w1.alloc (Obj.cells Z 63)).setRow m C = w2 at A1 A0 AG ⊢
  clear hm
  have x0 := nums_cell A0.out 0 (by simp)
  have x1 := nums_cell A0.out 1 (by simp)
  have x2 := nums_cell A0.out 2 (by simp)
  have x3 := nums_cell A0.out 3 (by simp)
  have x4 := nums_cell A0.out 4 (by simp)
  have u52 : Try.prog.underlying 43 = some (.array 5 42) := by kernel_rfl
  have i0 := arr_index u52 i51.out gh 0 .i64 0 rfl (by omega)
  have i1 := arr_index u52 i51.out gh 1 .i64 1 rfl (by omega)
  have i2 := arr_index u52 i51.out gh 2 .i64 2 rfl (by omega)
  have i3 := arr_index u52 i51.out gh 3 .i64 3 rfl (by omega)
  have i4 := arr_index u52 i51.out gh 4 .i64 4 rfl (by omega)
  have U52 := Aside0.mk u52
  clear u52
  go_quiet (fail)
  clear x0 x1 x2 x3 x4 i0 i1 i2 i3 i4
  have A0' : Aside0 ((w2.drewN nq).heap[gh]? = some (.cells (nums .u32 [h0, h1, h2, h3, h4]).toArray 43 (0, 0))) := ⟨blk_drewN A0.out _⟩
  have A1' : Aside0 ((w2.drewN nq).heap[m]? = some (.cells C 63 (0, 0))) := ⟨blk_drewN A1.out _⟩
  have AG' : Aside0 (w.grownBy (w2.drewN nq) (some gh)) := ⟨grown_drewN AG.out _⟩
  clear A0 A1 AG
  generalize w2.drewN nq = w3 at A0' A1' AG' ⊢
  go_wp2
  go_loopw [5, 6, 7, 8, 9, 38] (fun v5 v6 v7 v8 v9 v38 wr => ∃ k : Nat, k ≤ 80 ∧ v38 = .int .i64 (k : Int) ∧ ∃ a b c d e : Int, v5 = .int .u32 a ∧ v6 = .int .u32 b ∧ v7 = .int .u32 c ∧ v8 = .int .u32 d ∧ v9 = .int .u32 e ∧ Aside0 (rnds (sch l 64) (h0, h1, h2, h3, h4) k = (a, b, c, d, e)) ∧ Aside0 (wr.heap[gh]? = some (.cells (nums .u32 [h0, h1, h2, h3, h4]).toArray 43 (0, 0))) ∧ Aside0 (wr.heap[m]? = some (.cells C 63 (0, 0))) ∧ Aside0 (w.grownBy wr (some gh))) (fun _ _ _ _ _ v38 _ => 80 - (intOf v38).toNat)
  case atStart => exact ⟨0, by omega, rfl, h0, h1, h2, h3, h4, rfl, rfl, rfl, rfl, rfl, ⟨rfl⟩, A0', A1', AG'⟩
  case round =>
    clear A0' A1' AG'
    obtain ⟨k, hk, rfl, a, b, cc, d, e, rfl, rfl, rfl, rfl, rfl, HR, R0, R1, RG⟩ := hrel
    by_cases hlt : k < 80
    · have ix := arr_index u68.out i51.out m k .i64 (k : Int) rfl (by omega)
      obtain ⟨y, hy⟩ : ∃ y, y = (sch l 64).getD k 0 := ⟨_, rfl⟩
      have cw : wr.cell? ⟨m, k, none⟩ = some (.int .u32 y) := by
        have h := R1.out
        rw [HC.out] at h
        rw [hy]
        exact nums_cell h k (by rw [sch_len]; omega)
      have HY := Aside0.mk hy
      clear hy
      go_wp2_with (go_at_call 57; refine (mixed_calls k (by omega) _ _ _ _).mono ?_; rintro e' w' ⟨rfl, rfl⟩)
      go_quiet ((go_at_call 58; exact Calls.quiet_of_same (rot5 _ _)))
      go_wp2_with (go_at_call 58; refine (rot30 _ _).mono ?_; rintro e' w' ⟨rfl, rfl⟩)
      go_roundw
      case rel => exact ⟨k + 1, by omega, by go_num, _, _, _, _, _, rfl, rfl, rfl, rfl, rfl, ⟨by rw [HY.out]; show stp _ k (rnds _ _ k) = _; rw [HR.out]; rfl⟩, ⟨blk_drewN R0.out _⟩, ⟨blk_drewN R1.out _⟩, ⟨grown_drewN RG.out _⟩⟩
      case measure => simp [intOf]; omega
    · have hk80 : k = 80 := by omega
      subst hk80
      go_wp2
      rw [show ((80 : Nat) : Int) = 80 from rfl]
      have g0 : ∀ w : World, (Instr.index 43 (.agg #[.int .u32 a, .int .u32 b, .int .u32 cc, .int .u32 d, .int .u32 e]) (.int .i64 0)).run Try.prog w = .ok (.int .u32 a) w := fun _ => by kernel_rfl
      have g1 : ∀ w : World, (Instr.index 43 (.agg #[.int .u32 a, .int .u32 b, .int .u32 cc, .int .u32 d, .int .u32 e]) (.int .i64 1)).run Try.prog w = .ok (.int .u32 b) w := fun _ => by kernel_rfl
      have g2 : ∀ w : World, (Instr.index 43 (.agg #[.int .u32 a, .int .u32 b, .int .u32 cc, .int .u32 d, .int .u32 e]) (.int .i64 2)).run Try.prog w = .ok (.int .u32 cc) w := fun _ => by kernel_rfl
      have g3 : ∀ w : World, (Instr.index 43 (.agg #[.int .u32 a, .int .u32 b, .int .u32 cc, .int .u32 d, .int .u32 e]) (.int .i64 3)).run Try.prog w = .ok (.int .u32 d) w := fun _ => by kernel_rfl
      have g4 : ∀ w : World, (Instr.index 43 (.agg #[.int .u32 a, .int .u32 b, .int .u32 cc, .int .u32 d, .int .u32 e]) (.int .i64 4)).run Try.prog w = .ok (.int .u32 e) w := fun _ => by kernel_rfl
      have R0' : Aside0 (wr.heap[gh]? = some (.cells (nums .u32 (addH h0 h1 h2 h3 h4 a b cc d e 0)).toArray 43 (0, 0))) := R0
      have i0 := arr_index U52.out i51.out gh 0 .i64 0 rfl (by omega)
      have i1 := arr_index U52.out i51.out gh 1 .i64 1 rfl (by omega)
      have i2 := arr_index U52.out i51.out gh 2 .i64 2 rfl (by omega)
      have i3 := arr_index U52.out i51.out gh 3 .i64 3 rfl (by omega)
      have i4 := arr_index U52.out i51.out gh 4 .i64 4 rfl (by omega)
      clear R0
      go_loopw [74] (fun v74 ws => ∃ k : Nat, k ≤ 5 ∧ v74 = .int .i64 (k : Int) ∧ Aside0 (ws.heap[gh]? = some (.cells (nums .u32 (addH h0 h1 h2 h3 h4 a b cc d e k)).toArray 43 (0, 0))) ∧ Aside0 (w.grownBy ws (some gh))) (fun v74 _ => 5 - (intOf v74).toNat)
      case atStart => exact ⟨0, by omega, rfl, R0', RG⟩
      case round =>
        clear R0' RG R1
        obtain ⟨k, hk, rfl, R0, RG⟩ := hrel
        have hk5 : k = 0 ∨ k = 1 ∨ k = 2 ∨ k = 3 ∨ k = 4 ∨ k = 5 := by omega
        rcases hk5 with rfl | rfl | rfl | rfl | rfl | rfl
        · have cw : wr.cell? ⟨gh, 0, none⟩ = some (.int .u32 h0) := nums_cell R0.out 0 (by simp [addH])
          have fz : wr.frozen? ⟨gh, 0, none⟩ = false := blk_frozen R0.out 0
          go_wp2
          go_still_tail 9, (by kernel_rfl)
          change wpList _ _ _ _ _ wr.drew
          have R0' := Aside0.mk (blk_drew R0.out)
          have RG' := Aside0.mk (grown_drew RG.out)
          have cw' : wr.drew.cell? ⟨gh, 0, none⟩ = some (.int .u32 h0) := nums_cell R0'.out 0 (by simp [addH])
          have fz' : wr.drew.frozen? ⟨gh, 0, none⟩ = false := blk_frozen R0'.out 0
          clear R0 RG cw fz
          generalize wr.drew = w4 at R0' RG' cw' fz' ⊢
          go_wp2
          go_roundw
          case rel => exact ⟨1, by omega, by simp, ⟨blk_put R0'.out 0 _ (by simp [addH, nums])⟩, ⟨grown_set RG'.out _ _⟩⟩
          case measure => simp [intOf]
        · have cw : wr.cell? ⟨gh, 1, none⟩ = some (.int .u32 h1) := nums_cell R0.out 1 (by simp [addH])
          have fz : wr.frozen? ⟨gh, 1, none⟩ = false := blk_frozen R0.out 1
          go_wp2
          go_still_tail 9, (by kernel_rfl)
          change wpList _ _ _ _ _ wr.drew
          have R0' := Aside0.mk (blk_drew R0.out)
          have RG' := Aside0.mk (grown_drew RG.out)
          have cw' : wr.drew.cell? ⟨gh, 1, none⟩ = some (.int .u32 h1) := nums_cell R0'.out 1 (by simp [addH])
          have fz' : wr.drew.frozen? ⟨gh, 1, none⟩ = false := blk_frozen R0'.out 1
          clear R0 RG cw fz
          generalize wr.drew = w4 at R0' RG' cw' fz' ⊢
          go_wp2
          go_roundw
          case rel => exact ⟨2, by omega, by simp, ⟨blk_put R0'.out 1 _ (by simp [addH, nums])⟩, ⟨grown_set RG'.out _ _⟩⟩
          case measure => simp [intOf]
        · have cw : wr.cell? ⟨gh, 2, none⟩ = some (.int .u32 h2) := nums_cell R0.out 2 (by simp [addH])
          have fz : wr.frozen? ⟨gh, 2, none⟩ = false := blk_frozen R0.out 2
          go_wp2
          go_still_tail 9, (by kernel_rfl)
          change wpList _ _ _ _ _ wr.drew
          have R0' := Aside0.mk (blk_drew R0.out)
          have RG' := Aside0.mk (grown_drew RG.out)
          have cw' : wr.drew.cell? ⟨gh, 2, none⟩ = some (.int .u32 h2) := nums_cell R0'.out 2 (by simp [addH])
          have fz' : wr.drew.frozen? ⟨gh, 2, none⟩ = false := blk_frozen R0'.out 2
          clear R0 RG cw fz
          generalize wr.drew = w4 at R0' RG' cw' fz' ⊢
          go_wp2
          go_roundw
          case rel => exact ⟨3, by omega, by simp, ⟨blk_put R0'.out 2 _ (by simp [addH, nums])⟩, ⟨grown_set RG'.out _ _⟩⟩
          case measure => simp [intOf]
        · have cw : wr.cell? ⟨gh, 3, none⟩ = some (.int .u32 h3) := nums_cell R0.out 3 (by simp [addH])
          have fz : wr.frozen? ⟨gh, 3, none⟩ = false := blk_frozen R0.out 3
          go_wp2
          go_still_tail 9, (by kernel_rfl)
          change wpList _ _ _ _ _ wr.drew
          have R0' := Aside0.mk (blk_drew R0.out)
          have RG' := Aside0.mk (grown_drew RG.out)
          have cw' : wr.drew.cell? ⟨gh, 3, none⟩ = some (.int .u32 h3) := nums_cell R0'.out 3 (by simp [addH])
          have fz' : wr.drew.frozen? ⟨gh, 3, none⟩ = false := blk_frozen R0'.out 3
          clear R0 RG cw fz
          generalize wr.drew = w4 at R0' RG' cw' fz' ⊢
          go_wp2
          go_roundw
          case rel => exact ⟨4, by omega, by simp, ⟨blk_put R0'.out 3 _ (by simp [addH, nums])⟩, ⟨grown_set RG'.out _ _⟩⟩
          case measure => simp [intOf]
        · have cw : wr.cell? ⟨gh, 4, none⟩ = some (.int .u32 h4) := nums_cell R0.out 4 (by simp [addH])
          have fz : wr.frozen? ⟨gh, 4, none⟩ = false := blk_frozen R0.out 4
          go_wp2
          go_still_tail 9, (by kernel_rfl)
          change wpList _ _ _ _ _ wr.drew
          have R0' := Aside0.mk (blk_drew R0.out)
          have RG' := Aside0.mk (grown_drew RG.out)
          have cw' : wr.drew.cell? ⟨gh, 4, none⟩ = some (.int .u32 h4) := nums_cell R0'.out 4 (by simp [addH])
          have fz' : wr.drew.frozen? ⟨gh, 4, none⟩ = false := blk_frozen R0'.out 4
          clear R0 RG cw fz
          generalize wr.drew = w4 at R0' RG' cw' fz' ⊢
          go_wp2
          go_roundw
          case rel => exact ⟨5, by omega, by simp, ⟨blk_put R0'.out 4 _ (by simp [addH, nums])⟩, ⟨grown_set RG'.out _ _⟩⟩
          case measure => simp [intOf]
        · go_wp2
          go_end0
          refine ⟨rfl, ?_, RG.out⟩
          rw [comp_eq _ _ _ _ _ _ _ _ _ _ _ HR.out]
          exact R0.out
end Go.Proofs.Ytgmjbnglenmlpaa.Given
end
section
/- The walk of hash.padded: a text, a bit, noughts, how many bits there were. -/
set_option linter.unusedSimpArgs false
set_option linter.unusedVariables false
set_option maxRecDepth 100000
namespace Go.Proofs.Ytgmjbnglenmlpaa.Given
open Go.RowKit Go.Proofs.YtgmjbnglenmlpaaW.PrintWords
section
variable {P : Program} {ops : Array Oper} {rest : List Oper} {o : Oper} {a : Act} {Q : Exit → Act → World → Prop} {W : World}
theorem copy_str (hgd : o.guard = none) (d s : Operand) (dT sT : TypeId) (ho : o.op = .call { callee := .builtin .copy, args := #[d, s], argTypes := #[dT, sT] }) (elem : TypeId) (hu : P.underlying dT = some (.slice elem)) (hsz : (P.info? elem).map (·.size) = some 1)
    (g n c : Nat) (str : ByteArray) (cur : Array Value) (t : TypeId) (hd : a.eval d = .slice (some ⟨g, 0, none⟩) n c) (hs : a.eval s = .string str) (hg : W.heap[g]? = some (.cells cur t (0, 0))) (hle : str.size ≤ n) (hfit : str.size ≤ cur.size)
    (h : wpList P ops Q rest (a.put o.dst (goInt str.size)) (W.setRow g (Lib.byteCells str.data.toList ++ cur.toList.drop str.size).toArray)) : wpList P ops Q (o :: rest) a W := by
  refine wpList_plain hgd fun K hK => ?_
  have hrun := Lib.run_copy_row_string (P := P) W dT sT o.type elem g 0 n c str cur t hu hsz hg hle (by omega)
  simp only [List.take_zero, List.nil_append, Nat.zero_add] at hrun
  unfold Oper.wp
  simp [execOp, ho, resolve, invoke, builtin, hd, hs, hrun, Result.andThen]
  exact hK _ _ h
theorem make_row (hgd : o.guard = none) (l : Operand) (t e : TypeId) (ho : o.op = .makeSlice t l l) (i : TypeInfo) (z : Value) (ht : P.underlying t = some (.slice e)) (hi : P.info? e = some i) (hz : i.zero = some z) (hs : i.size = 1)
    (n : Nat) (hl : a.eval l = .int .i64 (n : Int)) (hb : i.bytes * n ≤ 281474976710656) (h63 : n ≤ 9223372036854775807)
    (h : wpList P ops Q rest (a.put o.dst (.slice (some ⟨W.heap.size, 0, none⟩) n n)) (W.alloc (.cells (madeCells z.cells n) e))) : wpList P ops Q (o :: rest) a W := by
  refine Kd.event_run hgd ?_ h
  have hrun := run_make (P := P) W t e i z ht hi hz .i64 .i64 (n : Int) (n : Int) (by omega) (by omega) (by rw [← Int.natCast_mul]; omega) (by omega)
  rw [hs] at hrun
  simp only [Int.toNat_natCast, Nat.mul_one] at hrun
  simp [execOp, ho, hl, hrun, Result.andThen]
end
theorem made_one (v : Value) (n : Nat) : (madeCells #[v] n).toList = List.replicate n v := by
  apply List.ext_getElem
  · simp [madeCells]
  · intro i h1 h2
    simp [madeCells, Nat.mod_one]
/-- A text's bytes. -/
def sbytes (s : ByteArray) : List Int := s.data.toList.map fun b => (b.toNat : Int)
theorem sbytes_len (s : ByteArray) : (sbytes s).length = s.size := by
  simp only [sbytes, List.length_map, Array.length_toList]
  rfl
theorem copied (s : ByteArray) (n : Nat) : Lib.byteCells s.data.toList ++ (madeCells #[.int .u8 0] n).toList.drop s.size = nums .u8 (sbytes s ++ List.replicate (n - s.size) 0) := by
  rw [made_one, nums_append]
  congr 1
  · simp [Lib.byteCells, nums, sbytes]
  · simp [nums]
def lb (n k : Nat) : Int := (n : Int) * 8 / 2 ^ (8 * k) % 256
def lbs (n : Nat) : Nat → List Int
  | 0 => []
  | k + 1 => lb n k :: lbs n k
theorem lbs_len (n k : Nat) : (lbs n k).length = k := by
  induction k with
  | zero => rfl
  | succ k ih => simp [lbs, ih]
/-- How many bytes there are behind the padding. -/
def padN (n : Nat) : Nat := ((n + 8) / 64 + 1) * 64
/-- A text, a bit, noughts, the last k bytes. -/
def padK (l : List Int) (k : Nat) : List Int := l ++ (128 :: (List.replicate (padN l.length - l.length - 1 - k) 0 ++ lbs l.length k))
theorem padN_ge (n : Nat) : n + 9 ≤ padN n := by unfold padN; omega
theorem padK_len (l : List Int) (k : Nat) (hk : k ≤ 8) : (padK l k).length = padN l.length := by
  have := padN_ge l.length
  unfold padK
  simp only [List.length_append, List.length_cons, List.length_replicate, lbs_len]
  omega
theorem padK_next (l : List Int) (k : Nat) (hk : k < 8) : ((nums .u8 (padK l k)).toArray).setIfInBounds (padN l.length - 1 - k) (.int .u8 (lb l.length k)) = (nums .u8 (padK l (k + 1))).toArray := by
  have hN := padN_ge l.length
  have e : (padK l k).set (padN l.length - 1 - k) (lb l.length k) = padK l (k + 1) := by
    unfold padK
    obtain ⟨d, hd⟩ : ∃ d, padN l.length - l.length - 1 - k = d + 1 := ⟨padN l.length - l.length - 2 - k, by omega⟩
    rw [hd, show padN l.length - l.length - 1 - (k + 1) = d by omega, List.set_append_right _ _ (by omega), show padN l.length - 1 - k - l.length = d + 1 by omega, List.set_cons_succ, List.set_append_left _ _ (by simp)]
    congr 2
    rw [List.replicate_succ', List.set_append_right _ _ (by simp)]
    simp [lbs]
  rw [← e]
  simp [nums, List.map_set]
theorem padK_0 (l : List Int) : ((nums .u8 (l ++ List.replicate (padN l.length - l.length) 0)).toArray).setIfInBounds l.length (.int .u8 128) = (nums .u8 (padK l 0)).toArray := by
  have hN := padN_ge l.length
  have e : (l ++ List.replicate (padN l.length - l.length) 0).set l.length 128 = padK l 0 := by
    unfold padK
    obtain ⟨d, hd⟩ : ∃ d, padN l.length - l.length = d + 1 := ⟨padN l.length - l.length - 1, by omega⟩
    rw [hd, show d + 1 - 1 - 0 = d by omega, List.set_append_right _ _ (by omega), Nat.sub_self]
    simp [List.replicate_succ, lbs]
  rw [← e]
  simp [nums, List.map_set]
theorem padded_calls (s : ByteArray) (w : World) (hs : s.size ≤ 1000000) : Calls Try.prog 49 #[.string s] w fun e w' => ∃ g, e = .returned (.slice (some ⟨g, 0, none⟩) (padN s.size) (padN s.size)) ∧ w'.heap[g]? = some (.cells (nums .u8 (padK (sbytes s) 8)).toArray 5 (0, 0)) ∧ w.heap.size ≤ g ∧ Below w.heap.size w w' := by
  have hN := padN_ge s.size
  have hN2 : padN s.size ≤ 1000100 := by unfold padN; omega
  have hX : (((s.size : Int) + 8) / 64 + 1) * 64 = ((padN s.size : Nat) : Int) := by unfold padN; omega
  have info5 : ∃ i, Try.prog.info? 5 = some i ∧ i.zero = some (.int .u8 0) ∧ i.size = 1 ∧ i.bytes = 1 := ⟨_, rfl, rfl, rfl, rfl⟩
  obtain ⟨inf, f1, f2, f3, f4⟩ := info5
  have u26 : Try.prog.underlying 44 = some (.slice 5) := by kernel_rfl
  have F1 := Aside0.mk f1
  have F2 := Aside0.mk f2
  have F3 := Aside0.mk f3
  have F4 := Aside0.mk f4
  have U26 := Aside0.mk u26
  clear f1 f2 f3 f4 u26
  have hsz : Aside0 ((Try.prog.info? 5).map (·.size) = some 1) := ⟨by rw [F1.out]; simp [F3.out]⟩
  obtain ⟨n, hn⟩ : ∃ n, n = padN s.size := ⟨_, rfl⟩
  rw [← hn] at hX hN hN2
  have HN := Aside0.mk hn
  have HX := Aside0.mk hX
  clear hn hX
  have HL := Aside0.mk (sbytes_len s)
  go_enter Try.func49, Try.ntmps49
  go_upto_region 4 with (first | ((with_reducible refine gate_dst (N := 14) rfl ?_); refine make_row rfl (.tmp 13) 44 5 rfl inf (.int .u8 0) U26.out F1.out F2.out F3.out n (by rw [← HX.out]; rfl) (by rw [F4.out]; omega) (by omega) ?_) | ((with_reducible refine gate_dst (N := 17) rfl ?_); refine copy_str rfl (.tmp 15) (.tmp 16) 44 9 rfl 5 U26.out hsz.out _ n n s _ 5 rfl rfl (blk_new _ _) (by omega) (by rw [size_madeCells]; omega) ?_))
  have A0 : Aside0 (((w.alloc (Obj.cells (madeCells #[.int .u8 0] n) 5)).setRow w.heap.size (Lib.byteCells s.data.toList ++ (madeCells #[.int .u8 0] n).toList.drop s.size).toArray).heap[w.heap.size]? = some (.cells (nums .u8 (sbytes s ++ List.replicate (n - s.size) 0)).toArray 5 (0, 0))) := ⟨by rw [setRow_heap _ _ _ _ 5 (0, 0) (blk_new _ _), copied]⟩
  have AB : Aside0 (Below w.heap.size w ((w.alloc (Obj.cells (madeCells #[.int .u8 0] n) 5)).setRow w.heap.size (Lib.byteCells s.data.toList ++ (madeCells #[.int .u8 0] n).toList.drop s.size).toArray)) := ⟨below_setRow (below_alloc (Below.refl _ _) _) (Nat.le_refl _) _⟩
  (try simp only [Act.put, List.setIfInBounds_toArray, List.set_cons_zero, List.set_cons_succ])
  obtain ⟨g, hg⟩ : ∃ g, g = w.heap.size := ⟨_, rfl⟩
  rw [← hg] at A0 AB ⊢
  generalize (w.alloc (Obj.cells (madeCells #[.int .u8 0] n) 5)).setRow g (Lib.byteCells s.data.toList ++ (madeCells #[.int .u8 0] n).toList.drop s.size).toArray = w1 at A0 AB ⊢
  have HG := Aside0.mk hg
  clear hg
  have cw : w1.cell? ⟨g, s.size, none⟩ = some (.int .u8 ((sbytes s ++ List.replicate (n - s.size) 0).getD s.size 0)) := nums_cell A0.out s.size (by have := HL.out; simp only [List.length_append, List.length_replicate]; omega)
  have fz : w1.frozen? ⟨g, s.size, none⟩ = false := blk_frozen A0.out s.size
  have lt : s.size < n := by omega
  go_wp2
  have B0 : Aside0 ((w1.setCell ⟨g, s.size, none⟩ (.int .u8 128)).heap[g]? = some (.cells (nums .u8 (padK (sbytes s) 0)).toArray 5 (0, 0))) := ⟨blk_put A0.out _ _ (by have h := padK_0 (sbytes s); rw [HL.out, ← HN.out] at h; exact h)⟩
  have BB : Aside0 (Below g w (w1.setCell ⟨g, s.size, none⟩ (.int .u8 128))) := ⟨AB.out.setCell (by simp) _⟩
  clear A0 AB cw fz
  generalize w1.setCell ⟨g, s.size, none⟩ (.int .u8 128) = w2 at B0 BB ⊢
  go_loopw [26] (fun v26 wr => ∃ k : Nat, k ≤ 8 ∧ v26 = .int .i64 (k : Int) ∧ Aside0 (wr.heap[g]? = some (.cells (nums .u8 (padK (sbytes s) k)).toArray 5 (0, 0))) ∧ Aside0 (Below g w wr)) (fun v26 _ => 8 - (intOf v26).toNat)
  case atStart => exact ⟨0, by omega, rfl, B0, BB⟩
  case round =>
    clear B0 BB
    obtain ⟨k, hk, rfl, R0, RB⟩ := hrel
    by_cases hlt : k < 8
    · have hpl : Aside0 ((padK (sbytes s) k).length = n) := ⟨by rw [padK_len _ k hk, HL.out, HN.out]⟩
      have cw : wr.cell? ⟨g, n - 1 - k, none⟩ = some (.int .u8 ((padK (sbytes s) k).getD (n - 1 - k) 0)) := nums_cell R0.out _ (by rw [hpl.out]; omega)
      have fz : wr.frozen? ⟨g, n - 1 - k, none⟩ = false := blk_frozen R0.out _
      have p0 : (0 : Int) ≤ (n : Int) - 1 - (k : Int) := by omega
      have p1 : (n : Int) - 1 - (k : Int) < (n : Int) := by omega
      have pt : ((n : Int) - 1 - (k : Int)).toNat = n - 1 - k := by omega
      have p8 : (8 * (k : Int)).toNat = 8 * k := by omega
      go_wp2
      go_roundw
      case rel => exact ⟨k + 1, by omega, by go_num, ⟨blk_put R0.out _ _ (by have h := padK_next (sbytes s) k hlt; rw [HL.out, ← HN.out] at h; exact h)⟩, ⟨RB.out.setCell (by simp) _⟩⟩
      case measure => simp [intOf]; omega
    · have hk8 : k = 8 := by omega
      subst hk8
      go_wp2
      go_ret
      exact ⟨g, by rw [HN.out.symm]; rfl, R0.out, by rw [HG.out]; exact Nat.le_refl _, by rw [← HG.out]; exact RB.out⟩
end Go.Proofs.Ytgmjbnglenmlpaa.Given
end
section
/- The walk of hash.Sum: SHA-1, in digits of sixteen. -/
set_option linter.unusedSimpArgs false
set_option linter.unusedVariables false
set_option maxRecDepth 100000
namespace Go.Proofs.Ytgmjbnglenmlpaa.Given
open Go.RowKit Go.Proofs.YtgmjbnglenmlpaaW.PrintWords
/-- The 64 bytes of block m. -/
def blkOf (L : List Int) (m : Nat) : List Int := (List.range 64).map fun j => L.getD (64 * m + j) 0
theorem blkOf_at (L : List Int) (m j : Nat) (h : j < 64) : (blkOf L m).getD j 0 = L.getD (64 * m + j) 0 := by
  unfold blkOf
  rw [List.getD_eq_getElem?_getD, List.getElem?_eq_getElem (by simpa using h)]
  simp
/-- The first m blocks taken in. -/
def fold (L : List Int) : Nat → List Int
  | 0 => [1732584193, 4023233417, 2562383102, 271733878, 3285377520]
  | m + 1 => comp (fold L m) (blkOf L m)
theorem fold5 (L : List Int) (m : Nat) : ∃ a b c d e, fold L m = [a, b, c, d, e] := by
  cases m with
  | zero => exact ⟨_, _, _, _, _, rfl⟩
  | succ m => exact ⟨_, _, _, _, _, rfl⟩
/-- The digits of sixteen. -/
def HEX : ByteArray := ⟨#[48, 49, 50, 51, 52, 53, 54, 55, 56, 57, 97, 98, 99, 100, 101, 102]⟩
def hexd (x : Int) (z : Nat) : Int := bt HEX (bits .and .u32 (x / 2 ^ z) 15)
def hexw (x : Int) : Nat → List Int
  | 0 => []
  | j + 1 => hexw x j ++ [hexd x (28 - 4 * j)]
def hexs (H : List Int) : Nat → List Int
  | 0 => []
  | k + 1 => hexs H k ++ hexw (H.getD k 0) 8
theorem hexw_len (x : Int) (j : Nat) : (hexw x j).length = j := by
  induction j with
  | zero => rfl
  | succ j ih => simp [hexw, ih]
theorem hexs_len (H : List Int) (k : Nat) : (hexs H k).length = 8 * k := by
  induction k with
  | zero => rfl
  | succ k ih => simp [hexs, ih, hexw_len]; omega
theorem getD_all {P : Int → Prop} (l : List Int) (h : ∀ y ∈ l, P y) (h0 : P 0) (k : Nat) : P (l.getD k 0) := by
  rw [List.getD_eq_getElem?_getD]
  by_cases hk : k < l.length
  · rw [List.getElem?_eq_getElem hk]
    exact h _ (List.getElem_mem hk)
  · rw [List.getElem?_eq_none (by omega)]
    exact h0
theorem addH_range (a b c d e x y z u v : Int) : ∀ r ∈ addH a b c d e x y z u v 5, 0 ≤ r ∧ r < 4294967296 := by
  intro r hr
  simp only [addH, List.mem_cons, List.not_mem_nil, or_false] at hr
  rcases hr with rfl | rfl | rfl | rfl | rfl
  all_goals (rw [if_pos (by decide)]; exact ⟨Int.emod_nonneg _ (by decide), Int.emod_lt_of_pos _ (by decide)⟩)
theorem fold_range (L : List Int) (m k : Nat) : 0 ≤ (fold L m).getD k 0 ∧ (fold L m).getD k 0 < 4294967296 := by
  refine getD_all (P := fun y => 0 ≤ y ∧ y < 4294967296) _ ?_ (by decide) k
  cases m with
  | zero =>
    intro y hy
    simp only [fold, List.mem_cons, List.not_mem_nil, or_false] at hy
    omega
  | succ m => exact addH_range _ _ _ _ _ _ _ _ _ _
theorem wrap_u32 (n : Int) (h0 : 0 ≤ n) (h1 : n < 2 ^ 32) : IntKind.u32.wrap n = n := by
  simp only [IntKind.wrap, IntKind.bits, IntKind.signed]
  have : n % 2 ^ 32 = n := Int.emod_eq_of_lt h0 (by omega)
  simp only [this]
  split
  · rename_i h; simp at h
  · rfl
theorem nib_range (x : Int) (h0 : 0 ≤ x) (h1 : x < 4294967296) (z : Nat) : 0 ≤ bits .and .u32 (x / 2 ^ z) 15 ∧ bits .and .u32 (x / 2 ^ z) 15 < 16 := by
  have e : (15 : Int) = 2 ^ 4 - 1 := by decide
  have hp : (0 : Int) < 2 ^ z := by exact_mod_cast Nat.pos_of_ne_zero (by simp)
  have h2 : 0 ≤ x / 2 ^ z := Int.ediv_nonneg h0 (Int.le_of_lt hp)
  have h3 : x / 2 ^ z ≤ x := Int.ediv_le_self _ h0
  rw [e, bits_mask .u32 32 (by decide) wrap_u32 4 (by decide) _ h2 (by omega)]
  omega
/-- A text's sum. -/
def sumB (s : ByteArray) : ByteArray := strOfNums (hexs (fold (padK (sbytes s) 8) ((s.size + 8) / 64 + 1)) 5)
theorem sum_calls (s : ByteArray) (w : World) (hs : s.size ≤ 1000000) : Calls Try.prog 42 #[.string s] w fun e w' => e = .returned (.string (sumB s)) ∧ Below w.heap.size w w' := by
  obtain ⟨S5, hS5⟩ : ∃ S5, S5 = sumB s := ⟨_, rfl⟩
  rw [← hS5]
  have HS5 := Aside0.mk hS5
  clear hS5
  have HS := Aside0.mk hs
  have info5 : Aside0 ((Try.prog.info? 5).map (fun i => (i.zero, i.size, i.bytes)) = some (some (.int .u8 0), 1, 1)) := ⟨by kernel_rfl⟩
  have U26 : Aside0 (Try.prog.underlying 44 = some (.slice 5)) := ⟨by kernel_rfl⟩
  go_enter Try.func42, Try.ntmps42
  go_wp2_with (first | (go_at_call 49; refine (padded_calls s _ HS.out).mono ?_; rintro e w1 ⟨g, rfl, hg1, hg2, hB⟩; have G1 := Aside0.mk hg1; have G2 := Aside0.mk hg2; have GB := Aside0.mk hB; clear hg1 hg2 hB))
  obtain ⟨L, hL⟩ : ∃ L, L = padK (sbytes s) 8 := ⟨_, rfl⟩
  have HL : Aside0 (L = padK (sbytes s) 8) := ⟨hL⟩
  clear hL
  obtain ⟨q, hq⟩ : ∃ q, q = (s.size + 8) / 64 + 1 := ⟨_, rfl⟩
  have hpn : padN s.size = 64 * q := by rw [hq]; unfold padN; omega
  have HQ : Aside0 (q = (s.size + 8) / 64 + 1) := ⟨hq⟩
  have hLl : Aside0 (L.length = 64 * q) := ⟨by rw [HL.out, padK_len _ 8 (by omega), sbytes_len, hpn]⟩
  have hq2 : q ≤ 20000 := by rw [hq]; omega
  clear hq
  rw [hpn]
  obtain ⟨gh, hgh⟩ : ∃ gh, gh = w.heap.size := ⟨_, rfl⟩
  have A0 : Aside0 (w1.heap[gh]? = some (.cells (nums .u32 (fold L 0)).toArray 43 (0, 0))) := ⟨by
    rw [hgh]
    refine (GB.out.block w.heap.size (by simp)).trans (blk_new _ _)⟩
  have A1 : Aside0 (w1.heap[g]? = some (.cells (nums .u8 L).toArray 5 (0, 0))) := ⟨by rw [HL.out]; exact G1.out⟩
  have hne : gh < g := by have h := G2.out; simp at h; omega
  have AB : Aside0 (Below gh w w1) := ⟨by
    have h := below_then (B := w.heap.size) (below_alloc (Below.refl w.heap.size w) (.cells #[.int .u32 1732584193, .int .u32 4023233417, .int .u32 2562383102, .int .u32 271733878, .int .u32 3285377520] 43)) (by simp) GB.out
    rw [hgh]
    exact h⟩
  rw [← hgh]
  have HGH := Aside0.mk hgh
  clear hgh G1 G2 GB hpn
  go_loopw [4] (fun v4 wr => ∃ r m off : Nat, m + r = q ∧ (0 < r → off = 64 * m) ∧ v4 = .slice (some ⟨g, off, none⟩) (64 * r) (64 * r) ∧ Aside0 (wr.heap[gh]? = some (.cells (nums .u32 (fold L m)).toArray 43 (0, 0))) ∧ Aside0 (wr.heap[g]? = some (.cells (nums .u8 L).toArray 5 (0, 0))) ∧ Aside0 (Below gh w wr)) (fun v4 _ => match v4 with | .slice _ n _ => n | _ => 0)
  case atStart => exact ⟨q, 0, 0, by omega, fun _ => rfl, rfl, A0, A1, AB⟩
  case round =>
    clear A0 A1 AB
    obtain ⟨r, m, off, hmr, hoff, rfl, R0, R1, RB⟩ := hrel
    cases r with
    | zero =>
      have hmq : m = q := by omega
      subst hmq
      obtain ⟨a, b, cc, d, e, hf⟩ := fold5 L m
      have HF := Aside0.mk hf
      clear hf
      have R0' : Aside0 (wr.heap[gh]? = some (.cells (nums .u32 [a, b, cc, d, e]).toArray 43 (0, 0))) := ⟨by rw [← HF.out]; exact R0.out⟩
      have x0 := nums_cell R0'.out 0 (by simp)
      have x1 := nums_cell R0'.out 1 (by simp)
      have x2 := nums_cell R0'.out 2 (by simp)
      have x3 := nums_cell R0'.out 3 (by simp)
      have x4 := nums_cell R0'.out 4 (by simp)
      have hgb : gh ≤ wr.heap.size := Nat.le_of_lt (blk_lt R0.out)
      go_wp2
      clear x0 x1 x2 x3 x4 R0 R0' R1
      simp only [Nat.mul_zero]
      go_loopw [5, 21] (fun v5 v21 ws => ∃ k : Nat, k ≤ 5 ∧ v21 = .int .i64 (k : Int) ∧ Aside0 (Kd.R (Kd.int .u8) 5 ws gh (fun _ => True) v5 (hexs [a, b, cc, d, e] k)) ∧ Aside0 (Below gh w ws) ∧ Aside0 (gh ≤ ws.heap.size)) (fun _ v21 _ => 5 - (intOf v21).toNat)
      case atStart => exact ⟨0, by omega, rfl, ⟨Kd.R_nil _ _ _ _ _⟩, RB, ⟨hgb⟩⟩
      case round =>
        clear RB hgb
        obtain ⟨k, hk, rfl, RO, RB, RS⟩ := hrel
        by_cases hk5 : k < 5
        · have gi : ∀ w : World, (Instr.index 43 (.agg #[.int .u32 a, .int .u32 b, .int .u32 cc, .int .u32 d, .int .u32 e]) (.int .i64 (k : Int))).run Try.prog w = .ok (.int .u32 ([a, b, cc, d, e].getD k 0)) w := by
            have h5 : k = 0 ∨ k = 1 ∨ k = 2 ∨ k = 3 ∨ k = 4 := by omega
            rcases h5 with rfl | rfl | rfl | rfl | rfl
            all_goals exact fun _ => by kernel_rfl
          obtain ⟨x, hx⟩ : ∃ x, x = [a, b, cc, d, e].getD k 0 := ⟨_, rfl⟩
          rw [← hx] at gi
          have HX := Aside0.mk hx
          clear hx
          go_wp2
          have hkd : decide ((k : Int) < 5) = true := by simp; omega
          rw [hkd]
          clear hkd
          go_loopw [5, 8] (fun v5 v8 ws => ∃ j : Nat, j ≤ 8 ∧ v8 = .int .i64 (28 - 4 * (j : Int)) ∧ Aside0 (Kd.R (Kd.int .u8) 5 ws gh (fun _ => True) v5 (hexs [a, b, cc, d, e] k ++ hexw x j)) ∧ Aside0 (Below gh w ws) ∧ Aside0 (gh ≤ ws.heap.size)) (fun _ v8 _ => (intOf v8 + 4).toNat)
          case atStart => exact ⟨0, by omega, rfl, ⟨by rw [hexw, List.append_nil]; exact RO.out⟩, RB, RS⟩
          case round =>
            clear RO RB RS
            obtain ⟨j, hj, rfl, RO, RB, RS⟩ := hrel
            by_cases hj8 : j < 8
            · have p0 : (0 : Int) ≤ 28 - 4 * (j : Int) := by omega
              have pt : (28 - 4 * (j : Int)).toNat = 28 - 4 * j := by omega
              have pj : 0 ≤ bits .and .u32 (x / 2 ^ (28 - 4 * j)) 15 ∧ bits .and .u32 (x / 2 ^ (28 - 4 * j)) 15 < 16 := by
                have hr := fold_range L m k
                rw [HF.out, ← HX.out] at hr
                exact nib_range x hr.1 hr.2 _
              have pj0 := pj.1
              have pj1 := pj.2
              clear pj
              have hb : ∀ h, (((⟨#[48, 49, 50, 51, 52, 53, 54, 55, 56, 57, 97, 98, 99, 100, 101, 102]⟩ : ByteArray)[(bits .and .u32 (x / 2 ^ (28 - 4 * j)) 15).toNat]'h).toNat : Int) = hexd x (28 - 4 * j) := bt_at HEX _
              have hlen : (hexs [a, b, cc, d, e] k ++ hexw x j).length ≤ 48 := by
                have h1 : ∀ i, (hexw x i).length = i := hexw_len x
                rw [List.length_append, hexs_len, h1]
                omega
              have HLE := Aside0.mk hlen
              clear hlen
              go_wp2_with (first | (at_builtin; refine Kd.R_append (Kd.int .u8) (w0 := w) gh rfl (.tmp 28) (.tmp 34) 44 5 (.int .u8 0) 1 rfl U26.out info5.out rfl (by decide) (by omega) _ (hexs [a, b, cc, d, e] k ++ hexw x j) (hexd x (28 - 4 * j)) [.int .u8 (hexd x (28 - 4 * j))] (fun _ => True) (fun _ => False) rfl rfl ?aP (fun _ hk => hk.elim) ?aF ?aO ?aB ?aS ?aL ?_; (case aP => exact rfl); (case aB => exact RB.out); (case aF => exact (fun _ _ => trivial)); (case aO => exact RO.out); (case aS => exact RS.out); (case aL => have := HLE.out; omega); intro v7 w7 ho hb7 hg7 hat; have HO7 := Aside0.mk ho; have HB7 := Aside0.mk hb7; have HS7 : Aside0 (gh ≤ w7.heap.size) := ⟨Nat.le_trans RS.out hg7.size⟩; clear ho hb7 hg7 hat))
              go_roundw
              case rel => exact ⟨j + 1, by omega, by go_num, ⟨by rw [hexw, ← List.append_assoc]; exact HO7.out⟩, HB7, HS7⟩
              case measure => simp [intOf]; omega
            · have hj8' : j = 8 := by omega
              subst hj8'
              go_wp2
              go_roundw
              case rel => exact ⟨k + 1, by omega, by go_num, ⟨by rw [hexs, ← HX.out]; exact RO.out⟩, RB, RS⟩
              case measure => simp [intOf]; omega
        · have hk5' : k = 5 := by omega
          subst hk5'
          have hcv : ∀ v, Kd.R (Kd.int .u8) 5 wr gh (fun _ => True) v (hexs [a, b, cc, d, e] 5) → (convert 44 9 v).run Try.prog wr = .ok (.string (strOfNums (hexs [a, b, cc, d, e] 5))) wr := fun v h => own_string (e := 5) (by kernel_rfl) (by kernel_rfl) (by kernel_rfl) (Kd.own_of_R h)
          have hc := hcv _ RO.out
          clear hcv
          obtain ⟨T, hT⟩ : ∃ T, T = strOfNums (hexs [a, b, cc, d, e] 5) := ⟨_, rfl⟩
          rw [← hT] at hc
          have HT := Aside0.mk hT
          clear hT
          go_wp2
          go_ret
          refine ⟨?_, by rw [← HGH.out]; exact RB.out⟩
          rw [HT.out, ← HF.out, HS5.out]
          unfold sumB
          rw [← HL.out, ← HQ.out]
          rfl
    | succ r =>
      have ho : off = 64 * m := hoff (by omega)
      subst ho
      clear hoff
      obtain ⟨a, b, cc, d, e, hf⟩ := fold5 L m
      have HF := Aside0.mk hf
      clear hf
      have hcells : Aside0 (∀ j, j < 64 → wr.cell? ⟨g, 64 * m + j, none⟩ = some (.int .u8 ((blkOf L m).getD j 0))) := ⟨fun j hj => by
        rw [blkOf_at L m j hj]
        exact nums_cell R1.out _ (by rw [hLl.out]; omega)⟩
      have R0' : Aside0 (wr.heap[gh]? = some (.cells (nums .u32 [a, b, cc, d, e]).toArray 43 (0, 0))) := ⟨by rw [← HF.out]; exact R0.out⟩
      by_cases hr : r = 0
      · subst hr
        go_wp2_with (first | (go_at_call 50; refine (take_calls a b cc d e (blkOf L m) gh g (64 * m) _ _ R0'.out hcells.out).mono ?_; rintro e' w2 ⟨rfl, h1, h2⟩; have S0 := Aside0.mk h1; have SG := Aside0.mk h2; clear h1 h2))
        go_roundw
        case rel => exact ⟨0, m + 1, _, by omega, by omega, rfl, ⟨by show w2.heap[gh]? = some (.cells (nums .u32 (comp (fold L m) (blkOf L m))).toArray 43 (0, 0)); rw [HF.out]; exact S0.out⟩, ⟨(SG.out.block g (blk_lt R1.out) (by simp; omega)).trans R1.out⟩, ⟨pw_below_grown RB.out (some gh) (Nat.le_of_lt (blk_lt R0.out)) SG.out (by intro k hk; cases hk; exact Nat.le_refl _)⟩⟩
        case measure => simp
      · have c1 : ¬ (64 * (r + 1) = 64) := by omega
        have c2 : (64 : Int) ≤ ((64 * (r + 1) : Nat) : Int) := by omega
        go_wp2_with (first | (go_at_call 50; refine (take_calls a b cc d e (blkOf L m) gh g (64 * m) _ _ R0'.out hcells.out).mono ?_; rintro e' w2 ⟨rfl, h1, h2⟩; have S0 := Aside0.mk h1; have SG := Aside0.mk h2; clear h1 h2))
        go_roundw
        case rel => exact ⟨r, m + 1, 64 * (m + 1), by omega, fun _ => rfl, by rw [show 64 * m + 64 = 64 * (m + 1) by omega, show 64 * (r + 1) - 64 = 64 * r by omega], ⟨by show w2.heap[gh]? = some (.cells (nums .u32 (comp (fold L m) (blkOf L m))).toArray 43 (0, 0)); rw [HF.out]; exact S0.out⟩, ⟨(SG.out.block g (blk_lt R1.out) (by simp; omega)).trans R1.out⟩, ⟨pw_below_grown RB.out (some gh) (Nat.le_of_lt (blk_lt R0.out)) SG.out (by intro k hk; cases hk; exact Nat.le_refl _)⟩⟩
        case measure => simp; omega
end Go.Proofs.Ytgmjbnglenmlpaa.Given
end
