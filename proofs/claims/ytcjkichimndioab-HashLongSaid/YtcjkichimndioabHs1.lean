/- The walk of hash.spread: the words of all rounds. -/
import Derived.Test.YtcjkichimndioabProg
import Derived.Test.YtcjkichimndioabWWords
import Derived.Test.YtcjkichimndioabWMore
import Derived.Below
import Derived.Deep.Draws
import Derived.Deep.AppendLies
import Derived.Maps.AppendAt
import Derived.OwnWalk
import Derived.Laws.MakeOwn
import Derived.Tactics
import Derived.Laws.Slices
import Derived.KernelRfl
import Derived.RowKit3
import Derived.Deep.QuietTactic
import Derived.BigQuiet
import Derived.Laws.Rows
import Derived.Laws.IdiomCopy
import Derived.Laws.BitsLemmas
import Derived.RowKit
import Derived.WalkKit
import Derived.StillTailTactics
import Derived.BigRegion
import Derived.IntWalk
import Derived.Laws.CopyOwn
import Derived.Deep.WholeRow
import Derived.Deep.DeepCutAuto
set_option linter.unusedSimpArgs false
set_option linter.unusedVariables false
namespace Go.Proofs.Ytcjkichimndioab.Given
open Go.RowKit Go.Proofs.YtcjkichimndioabW.PrintWords
section
variable {P : Program} {ops : Array Oper} {rest : List Oper} {o : Oper} {a : Act} {Q : Exit → Act → World → Prop} {W : World}
theorem load_arr (t : TypeId) (p : Operand) (g n : Nat) (e t' : TypeId) (cs : Array Value) (hgd : o.guard = none) (ho : o.op = .load t p) (hp : a.eval p = .pointer (some ⟨g, 0, none⟩)) (hu : P.underlying t = some (.array n e))
    (hi : (P.info? t).map (·.size) = some cs.size) (hg : W.heap[g]? = some (.cells cs t' (0, 0))) (h : wpList P ops Q rest (a.put o.dst (.agg cs)) W) : wpList P ops Q (o :: rest) a W := by
  refine Kd.event_run hgd ?_ h
  have hl := run_loadVar_row (P := P) W g t' t cs (0, 0) _ hg hu rfl hi
  simp [execOp, ho, hp, Instr.loadAt, Instr.sureAddr, hl, Result.andThen]
theorem store_arr (t : TypeId) (p x : Operand) (g : Nat) (t' : TypeId) (old cs : Array Value) (hgd : o.guard = none) (hd : o.dst = none) (ho : o.op = .store t p x) (hp : a.eval p = .pointer (some ⟨g, 0, none⟩)) (hx : a.eval x = .agg cs)
    (hi : (P.info? t).map (·.size) = some cs.size) (hs : old.size = cs.size) (h1 : cs.all (·.oneCell') = true) (hg : W.heap[g]? = some (.cells old t' (0, 0))) (h : wpList P ops Q rest a (W.setRow g cs)) : wpList P ops Q (o :: rest) a W := by
  refine wpList_plain hgd fun K hK => ?_
  have hl := run_storeVar_row (P := P) W g t' t old cs hg hi hs h1
  unfold Oper.wp
  simp [execOp, ho, hp, hx, Instr.storeAt, Instr.sureAddr, hl, Result.andThen]
  exact hK _ _ (by rw [hd]; exact h)
theorem results_cell {fn : Func} {p : Tmp} {ty : TypeId} (h : fn.results = #[.cell p ty]) (tmps : Array Value) (P : Program) (w : World) :
    (results fn tmps).run P w = ((asAddr (tmps.getD p undef)).run P w).andThen fun a w1 => (loadVar ty a).run P w1 := by
  simp only [results, h]
  simp [Sem.run_bind, Result.andThen]
end
def rotl (x : Int) (k : Nat) : Int := bits .or .u32 (IntKind.u32.wrap (x * 2 ^ k)) (x / 2 ^ (32 - k))
theorem rot1 (x : Int) (w : World) : Calls Try.prog 43 #[.int .u32 x, .int .i64 1] w fun e w' => e = .returned (.int .u32 (rotl x 1)) ∧ w' = w := by
  have h1 : bits .and .u64 1 31 = 1 := by decide
  go_enter Try.func43, Try.ntmps43
  go_wp2
  go_ret
  exact ⟨rfl, rfl⟩
theorem rot5 (x : Int) (w : World) : Calls Try.prog 43 #[.int .u32 x, .int .i64 5] w fun e w' => e = .returned (.int .u32 (rotl x 5)) ∧ w' = w := by
  have h1 : bits .and .u64 5 31 = 5 := by decide
  go_enter Try.func43, Try.ntmps43
  go_wp2
  go_ret
  exact ⟨rfl, rfl⟩
theorem rot30 (x : Int) (w : World) : Calls Try.prog 43 #[.int .u32 x, .int .i64 30] w fun e w' => e = .returned (.int .u32 (rotl x 30)) ∧ w' = w := by
  have h1 : bits .and .u64 30 31 = 30 := by decide
  go_enter Try.func43, Try.ntmps43
  go_wp2
  go_ret
  exact ⟨rfl, rfl⟩
theorem arr_index {P : Program} {T E n : Nat} (hu : P.underlying T = some (.array n E)) (hs : (P.info? E).map (·.size) = some 1) (g i : Nat) (k : IntKind) (x : Int) (hx : x = i) (hi : i < n) (w : World) :
    (Instr.indexAt T (.pointer (some ⟨g, 0, none⟩)) (.int k x)).run P w = .ok (.pointer (some ⟨g, i, none⟩)) w := by
  subst hx
  obtain ⟨inf, h1, h2⟩ := Option.map_eq_some_iff.1 hs
  simp [Instr.indexAt, go_sem, run_underlying hu, sizeOf, typeInfo, h1, h2, Instr.sureAddr, hi]
/-- A word of four bytes. -/
def wd (x0 x1 x2 x3 : Int) : Int := bits .or .u32 (bits .or .u32 (bits .or .u32 (IntKind.u32.wrap (IntKind.u32.wrap x0 * 16777216)) (IntKind.u32.wrap (IntKind.u32.wrap x1 * 65536))) (IntKind.u32.wrap (IntKind.u32.wrap x2 * 256))) (IntKind.u32.wrap x3)
def word (l : List Int) (i : Nat) : Int := wd (l.getD (4 * i) 0) (l.getD (4 * i + 1) 0) (l.getD (4 * i + 2) 0) (l.getD (4 * i + 3) 0)
def W16 (l : List Int) (k : Nat) : List Int := (List.range k).map (word l) ++ List.replicate (80 - k) 0
theorem W16_next (l : List Int) (k : Nat) (hk : k < 80) : ((nums .u32 (W16 l k)).toArray).setIfInBounds k (.int .u32 (word l k)) = (nums .u32 (W16 l (k + 1))).toArray := by
  have e : (W16 l k).set k (word l k) = W16 l (k + 1) := by
    unfold W16
    rw [List.set_append_right _ _ (by simp), List.range_succ, List.map_append, List.append_assoc]
    congr 1
    obtain ⟨d, hd⟩ : ∃ d, 80 - k = d + 1 := ⟨79 - k, by omega⟩
    rw [hd, show 80 - (k + 1) = d by omega]
    simp [List.replicate_succ]
  rw [← e]
  simp [nums, List.map_set]
/-- The words of all rounds: the first 16, m more. -/
def sch (l : List Int) : Nat → List Int
  | 0 => (List.range 16).map (word l)
  | m + 1 => sch l m ++ [rotl (bits .xor .u32 (bits .xor .u32 (bits .xor .u32 ((sch l m).getD (m + 13) 0) ((sch l m).getD (m + 8) 0)) ((sch l m).getD (m + 2) 0)) ((sch l m).getD m 0)) 1]
theorem sch_len (l : List Int) (m : Nat) : (sch l m).length = 16 + m := by
  induction m with
  | zero => simp [sch]
  | succ m ih => simp [sch, ih]; omega
def W80 (l : List Int) (m : Nat) : List Int := sch l m ++ List.replicate (64 - m) 0
theorem W80_len (l : List Int) (m : Nat) (h : m ≤ 64) : (W80 l m).length = 80 := by simp [W80, sch_len]; omega
theorem W80_at (l : List Int) (m i : Nat) (h : i < 16 + m) : (W80 l m).getD i 0 = (sch l m).getD i 0 := by
  unfold W80
  rw [List.getD_eq_getElem?_getD, List.getD_eq_getElem?_getD, List.getElem?_append_left (by rw [sch_len]; exact h)]
theorem W80_next (l : List Int) (m : Nat) (hm : m < 64) : ((nums .u32 (W80 l m)).toArray).setIfInBounds (16 + m) (.int .u32 (rotl (bits .xor .u32 (bits .xor .u32 (bits .xor .u32 ((sch l m).getD (m + 13) 0) ((sch l m).getD (m + 8) 0)) ((sch l m).getD (m + 2) 0)) ((sch l m).getD m 0)) 1)) = (nums .u32 (W80 l (m + 1))).toArray := by
  have e : (W80 l m).set (16 + m) (rotl (bits .xor .u32 (bits .xor .u32 (bits .xor .u32 ((sch l m).getD (m + 13) 0) ((sch l m).getD (m + 8) 0)) ((sch l m).getD (m + 2) 0)) ((sch l m).getD m 0)) 1) = W80 l (m + 1) := by
    unfold W80
    rw [List.set_append_right _ _ (by rw [sch_len]; omega), sch_len, sch, List.append_assoc]
    congr 1
    obtain ⟨d, hd⟩ : ∃ d, 64 - m = d + 1 := ⟨63 - m, by omega⟩
    rw [hd, show 64 - (m + 1) = d by omega]
    simp [List.replicate_succ]
  rw [← e]
  simp [nums, List.map_set]
theorem nums_cell {w : World} {g : Nat} {t : TypeId} {k : IntKind} {l : List Int} (h : w.heap[g]? = some (.cells ((nums k l).toArray) t (0, 0))) (j : Nat) (hj : j < l.length) : w.cell? ⟨g, j, none⟩ = some (.int k (l.getD j 0)) := by
  rw [blk_cell h j]
  simp [nums, hj, List.getD_eq_getElem?_getD]
theorem spread_calls (l : List Int) (g off c : Nat) (w : World) (hb : ∀ j, j < 64 → w.cell? ⟨g, off + j, none⟩ = some (.int .u8 (l.getD j 0))) :
    Calls Try.prog 41 #[.slice (some ⟨g, off, none⟩) 64 c] w fun e w' => e = .returned (.agg (nums .u32 (sch l 64)).toArray) ∧ Below w.heap.size w w' := by
  obtain ⟨C, hC⟩ : ∃ C, C = (nums .u32 (sch l 64)).toArray := ⟨_, rfl⟩
  rw [← hC]
  have HC := Aside0.mk hC
  clear hC
  have u68 : Try.prog.underlying 68 = some (.array 80 51) := by kernel_rfl
  have i51 : (Try.prog.info? 51).map (·.size) = some 1 := by kernel_rfl
  have HB := Aside0.mk hb
  have U := Aside0.mk u68
  have I := Aside0.mk i51
  clear hb u68 i51
  obtain ⟨Z, hZ⟩ : ∃ Z, Z = (nums .u32 (List.replicate 80 0)).toArray := ⟨_, rfl⟩
  have hz : ∀ w, (zeroValue 68).run Try.prog w = .ok (.agg Z) w := by rw [hZ]; exact fun _ => by kernel_rfl
  have HZ := Aside0.mk hZ
  clear hZ
  go_enter Try.func41, Try.ntmps41
  go_wp2
  have B0 : (((w.alloc (Obj.cells Z 68)).alloc (Obj.cells Z 68)).heap[w.heap.size]? = some (.cells Z 68 (0, 0))) := blk_alloc (blk_new _ _) _
  have B1 : (((w.alloc (Obj.cells Z 68)).alloc (Obj.cells Z 68)).heap[w.heap.size + 1]? = some (.cells Z 68 (0, 0))) := by
    have := blk_new (w.alloc (Obj.cells Z 68)) (Obj.cells Z 68)
    simpa using this
  have HB0 : Below w.heap.size w ((w.alloc (Obj.cells Z 68)).alloc (Obj.cells Z 68)) := below_alloc (below_alloc (Below.refl _ _) _) _
  have B1' : (((w.alloc (Obj.cells Z 68)).alloc (Obj.cells Z 68)).heap[w.heap.size + 1]? = some (.cells (nums .u32 (W16 l 0)).toArray 68 (0, 0))) := by rw [B1, HZ.out]; simp [W16]
  have A0 := Aside0.mk B0
  have A1 := Aside0.mk B1'
  have A2 := Aside0.mk HB0
  clear B0 B1 B1' HB0
  generalize (w.alloc (Obj.cells Z 68)).alloc (Obj.cells Z 68) = W at A0 A1 A2
  obtain ⟨n, hn⟩ : ∃ n, n = w.heap.size := ⟨_, rfl⟩
  rw [← hn] at A0 A1 A2 ⊢
  have HN := Aside0.mk hn
  clear hn
  go_loopw [6] (fun v6 wr => ∃ k : Nat, k ≤ 16 ∧ v6 = .int .i64 k ∧ Aside0 (wr.heap[n + 1]? = some (.cells (nums .u32 (W16 l k)).toArray 68 (0, 0))) ∧ Aside0 (wr.heap[n]? = some (.cells Z 68 (0, 0))) ∧ Aside0 (Below n w wr)) (fun v6 _ => 16 - (intOf v6).toNat)
  case atStart => exact ⟨0, by omega, rfl, A1, A0, A2⟩
  case round =>
    obtain ⟨k, hk, rfl, R1, R0, RB⟩ := hrel
    by_cases hlt : k < 16
    · have ix := arr_index U.out I.out (n + 1) k .i64 (k : Int) rfl (by omega)
      have hcell : ∀ j, j < 64 → wr.cell? ⟨g, off + j, none⟩ = some (.int .u8 (l.getD j 0)) := fun j hj => by
        have h1 := HB.out j hj
        have h2 := World.block_lt_of_cell? w _ h1
        rw [← HN.out] at h2
        exact (RB.out.cell h2).trans h1
      have c0 := hcell (4 * k) (by omega)
      have c1 := hcell (4 * k + 1) (by omega)
      have c2 := hcell (4 * k + 2) (by omega)
      have c3 := hcell (4 * k + 3) (by omega)
      obtain ⟨x0, hx0⟩ : ∃ x, x = l.getD (4 * k) 0 := ⟨_, rfl⟩
      obtain ⟨x1, hx1⟩ : ∃ x, x = l.getD (4 * k + 1) 0 := ⟨_, rfl⟩
      obtain ⟨x2, hx2⟩ : ∃ x, x = l.getD (4 * k + 2) 0 := ⟨_, rfl⟩
      obtain ⟨x3, hx3⟩ : ∃ x, x = l.getD (4 * k + 3) 0 := ⟨_, rfl⟩
      rw [← hx0] at c0
      rw [← hx1] at c1
      rw [← hx2] at c2
      rw [← hx3] at c3
      have HX0 := Aside0.mk hx0
      have HX1 := Aside0.mk hx1
      have HX2 := Aside0.mk hx2
      have HX3 := Aside0.mk hx3
      clear hx0 hx1 hx2 hx3 hcell
      have fz : wr.frozen? ⟨n + 1, k, none⟩ = false := blk_frozen R1.out k
      have p0 : (0 : Int) ≤ 4 * (k : Int) := by omega
      have p1 : (0 : Int) ≤ 4 * (k : Int) + 1 := by omega
      have p2 : (0 : Int) ≤ 4 * (k : Int) + 2 := by omega
      have p3 : (0 : Int) ≤ 4 * (k : Int) + 3 := by omega
      have q0 : 4 * (k : Int) < 64 := by omega
      have q1 : 4 * (k : Int) + 1 < 64 := by omega
      have q2 : 4 * (k : Int) + 2 < 64 := by omega
      have q3 : 4 * (k : Int) + 3 < 64 := by omega
      have t0 : (4 * (k : Int)).toNat = 4 * k := by omega
      have t1 : (4 * (k : Int) + 1).toNat = 4 * k + 1 := by omega
      have t2 : (4 * (k : Int) + 2).toNat = 4 * k + 2 := by omega
      have t3 : (4 * (k : Int) + 3).toNat = 4 * k + 3 := by omega
      go_wp2
      have w0 : IntKind.i64.wrap (4 * (k : Int)) = 4 * (k : Int) := IntWalk.i64_in _ (by omega)
      have w1 : IntKind.i64.wrap (4 * (k : Int) + 1) = 4 * (k : Int) + 1 := IntWalk.i64_in _ (by omega)
      have w2 : IntKind.i64.wrap (4 * (k : Int) + 2) = 4 * (k : Int) + 2 := IntWalk.i64_in _ (by omega)
      have w3 : IntKind.i64.wrap (4 * (k : Int) + 3) = 4 * (k : Int) + 3 := IntWalk.i64_in _ (by omega)
      go_still_tail 35, (by kernel_rfl)
      change wpList _ _ _ _ _ wr.drew
      clear w0 w1 w2 w3 t0 t1 t2 t3 p0 p1 p2 p3 q0 q1 q2 q3
      generalize hy : bits BinOp.or IntKind.u32 (bits .or .u32 (bits .or .u32 (IntKind.u32.wrap (IntKind.u32.wrap x0 * 16777216)) (IntKind.u32.wrap (IntKind.u32.wrap x1 * 65536))) (IntKind.u32.wrap (IntKind.u32.wrap x2 * 256))) (IntKind.u32.wrap x3) = y
      have HY : Aside0 (word l k = y) := ⟨by unfold word wd; rw [← HX0.out, ← HX1.out, ← HX2.out, ← HX3.out]; exact hy⟩
      clear hy c0 c1 c2 c3
      have R1' := Aside0.mk (blk_drew R1.out)
      have R0' := Aside0.mk (blk_drew R0.out)
      have RB' := Aside0.mk (below_drew RB.out)
      have fz' : wr.drew.frozen? ⟨n + 1, k, none⟩ = false := blk_frozen R1'.out k
      clear R1 R0 RB fz
      generalize wr.drew = w4 at R1' R0' RB' fz' ⊢
      obtain ⟨v0, cw⟩ : ∃ v, w4.cell? ⟨n + 1, k, none⟩ = some v := ⟨_, by rw [blk_cell R1'.out]; exact Array.getElem?_eq_getElem (by simp [nums, W16]; omega)⟩
      go_wp2
      go_roundw
      case rel => exact ⟨k + 1, by omega, by go_num, ⟨by rw [← HY.out]; exact blk_put R1'.out k _ (W16_next l k (by omega))⟩, ⟨blk_far R0'.out (by simp) _⟩, ⟨RB'.out.setCell (by simp) _⟩⟩
      case measure => simp [intOf]; omega
    · have hk16 : k = 16 := by omega
      subst hk16
      have R1' : Aside0 (wr.heap[n + 1]? = some (.cells (nums .u32 (W80 l 0)).toArray 68 (0, 0))) := R1
      clear R1
      go_wp2
      rw [show ((16 : Nat) : Int) = 16 from rfl]
      go_loopw [5] (fun v5 w5 => ∃ j : Nat, 16 ≤ j ∧ j ≤ 80 ∧ v5 = .int .i64 (j : Int) ∧ Aside0 (w5.heap[n + 1]? = some (.cells (nums .u32 (W80 l (j - 16))).toArray 68 (0, 0))) ∧ Aside0 (w5.heap[n]? = some (.cells Z 68 (0, 0))) ∧ Aside0 (Below n w w5)) (fun v5 _ => 80 - (intOf v5).toNat)
      case atStart => exact ⟨16, by omega, by omega, rfl, R1', R0, RB⟩
      case round =>
        clear R1' R0 RB
        obtain ⟨j, hj16, hj80, rfl, R1, R0, RB⟩ := hrel
        by_cases hlt : j < 80
        · obtain ⟨m, hm⟩ : ∃ m, m = j - 16 := ⟨_, rfl⟩
          rw [← hm] at R1
          have hjm : j = 16 + m := by omega
          have HM := Aside0.mk hjm
          clear hm hjm
          have hm64 : m < 64 := by have := HM.out; omega
          have at_ : ∀ i, i < 16 + m → wr.cell? ⟨n + 1, i, none⟩ = some (.int .u32 ((sch l m).getD i 0)) := fun i hi => by
            rw [← W80_at l m i hi]
            exact nums_cell R1.out i (by rw [W80_len l m (by omega)]; omega)
          have c13 := at_ (m + 13) (by omega)
          have c8 := at_ (m + 8) (by omega)
          have c2 := at_ (m + 2) (by omega)
          have c0 := at_ m (by omega)
          clear at_
          obtain ⟨y13, h13⟩ : ∃ y, y = (sch l m).getD (m + 13) 0 := ⟨_, rfl⟩
          obtain ⟨y8, h8⟩ : ∃ y, y = (sch l m).getD (m + 8) 0 := ⟨_, rfl⟩
          obtain ⟨y2, h2⟩ : ∃ y, y = (sch l m).getD (m + 2) 0 := ⟨_, rfl⟩
          obtain ⟨y0, h0⟩ : ∃ y, y = (sch l m).getD m 0 := ⟨_, rfl⟩
          rw [← h13] at c13
          rw [← h8] at c8
          rw [← h2] at c2
          rw [← h0] at c0
          have H13 := Aside0.mk h13
          have H8 := Aside0.mk h8
          have H2 := Aside0.mk h2
          have H0 := Aside0.mk h0
          clear h13 h8 h2 h0
          have i3 := arr_index U.out I.out (n + 1) (m + 13) .i64 ((j : Int) - 3) (by have := HM.out; omega) (by omega)
          have i8 := arr_index U.out I.out (n + 1) (m + 8) .i64 ((j : Int) - 8) (by have := HM.out; omega) (by omega)
          have i14 := arr_index U.out I.out (n + 1) (m + 2) .i64 ((j : Int) - 14) (by have := HM.out; omega) (by omega)
          have i16 := arr_index U.out I.out (n + 1) m .i64 ((j : Int) - 16) (by have := HM.out; omega) (by omega)
          have ij := arr_index U.out I.out (n + 1) j .i64 (j : Int) rfl (by omega)
          go_wp2
          have w3 : IntKind.i64.wrap ((j : Int) - 3) = (j : Int) - 3 := IntWalk.i64_in _ (by omega)
          have w8 : IntKind.i64.wrap ((j : Int) - 8) = (j : Int) - 8 := IntWalk.i64_in _ (by omega)
          have w14 : IntKind.i64.wrap ((j : Int) - 14) = (j : Int) - 14 := IntWalk.i64_in _ (by omega)
          have w16 : IntKind.i64.wrap ((j : Int) - 16) = (j : Int) - 16 := IntWalk.i64_in _ (by omega)
          refine wp_region_still_tail 22 (by kernel_rfl) (by kernel_rfl) ?_
          simp only [List.take_succ_cons, List.take_zero, List.drop_succ_cons, List.drop_zero]
          repeat still_step
          still_call (rot1 _ _)
          repeat still_step
          try refine wpStill_nil ?_
          change wpList _ _ _ _ _ wr.drew
          generalize hy : rotl (bits .xor .u32 (bits .xor .u32 (bits .xor .u32 y13 y8) y2) y0) 1 = y
          have HY : Aside0 (rotl (bits .xor .u32 (bits .xor .u32 (bits .xor .u32 ((sch l m).getD (m + 13) 0) ((sch l m).getD (m + 8) 0)) ((sch l m).getD (m + 2) 0)) ((sch l m).getD m 0)) 1 = y) := ⟨by rw [← H13.out, ← H8.out, ← H2.out, ← H0.out]; exact hy⟩
          clear hy c13 c8 c2 c0 w3 w8 w14 w16 i3 i8 i14 i16
          have R1' := Aside0.mk (blk_drew R1.out)
          have R0' := Aside0.mk (blk_drew R0.out)
          have RB' := Aside0.mk (below_drew RB.out)
          clear R1 R0 RB
          have fz' : wr.drew.frozen? ⟨n + 1, j, none⟩ = false := blk_frozen R1'.out j
          generalize wr.drew = w4 at R1' R0' RB' fz' ⊢
          obtain ⟨v0, cw⟩ : ∃ v, w4.cell? ⟨n + 1, j, none⟩ = some v := ⟨_, nums_cell R1'.out j (by rw [W80_len l m (by omega)]; omega)⟩
          go_wp2
          go_roundw
          case rel => exact ⟨j + 1, by omega, by omega, by go_num, ⟨by rw [← HY.out, show j + 1 - 16 = m + 1 by have := HM.out; omega]; exact blk_put R1'.out j _ (by rw [HM.out]; exact W80_next l m hm64)⟩, ⟨blk_far R0'.out (by simp) _⟩, ⟨RB'.out.setCell (by simp) _⟩⟩
          case measure => simp [intOf]; omega
        · have hj : j = 80 := by omega
          subst hj
          have R1' : Aside0 (wr.heap[n + 1]? = some (.cells (nums .u32 (sch l 64)).toArray 68 (0, 0))) := by
            have : W80 l 64 = sch l 64 := by simp [W80]
            rw [← this]
            exact R1
          have i68 : (Try.prog.info? 68).map (·.size) = some 80 := by kernel_rfl
          have sz : (nums .u32 (sch l 64)).toArray.size = 80 := by simp [nums, sch_len]
          have szZ : Z.size = 80 := by rw [HZ.out]; simp [nums]
          have one : (nums .u32 (sch l 64)).toArray.all (·.oneCell') = true := by simp [nums, Value.oneCell']
          have I68 := Aside0.mk i68
          have SZ := Aside0.mk sz
          have SZZ := Aside0.mk szZ
          have ONE := Aside0.mk one
          clear i68 sz szZ one R1
          rw [← HC.out] at R1' SZ ONE
          go_wp2_with (first | ((with_reducible refine gate_dst (N := 71) rfl ?_); refine load_arr 68 (.tmp 3) (n + 1) 80 51 68 C rfl rfl rfl U.out (by rw [SZ.out]; exact I68.out) R1'.out ?_) | ((with_reducible refine gate_store (t := 68) (p := 2) (v := .tmp 71) rfl ?_); refine store_arr 68 (.tmp 2) (.tmp 71) n 68 Z C rfl rfl rfl rfl rfl (by rw [SZ.out]; exact I68.out) (by rw [SZ.out, SZZ.out]) ONE.out R0.out ?_))
          have RC := setRow_heap wr n Z C 68 (0, 0) R0.out
          refine bodyPost_ret (v := .agg C) ?_ rfl ⟨rfl, ?_⟩
          · rw [results_cell rfl]
            exact run_loadVar_row (P := Try.prog) (wr.setRow n C) n 68 68 C (0, 0) _ RC U.out rfl (by rw [SZ.out]; exact I68.out)
          · rw [← HN.out]
            exact below_setRow RB.out (Nat.le_refl _) _
end Go.Proofs.Ytcjkichimndioab.Given
