/- The walk of hash.padded: a text, a bit, noughts, how many bits there were. -/
import Derived.Test.YtcjkichimndioabHs2
import Derived.Lib.BufferWrite
import Derived.Laws.MakeOwn
set_option linter.unusedSimpArgs false
set_option linter.unusedVariables false
namespace Go.Proofs.Ytcjkichimndioab.Given
open Go.RowKit Go.Proofs.YtcjkichimndioabW.PrintWords
section
variable {P : Program} {ops : Array Oper} {rest : List Oper} {o : Oper} {a : Act} {Q : Exit → Act → World → Prop} {W : World}
theorem copy_str (hgd : o.guard = none) (d s : Operand) (dT sT : TypeId) (ho : o.op = .call { callee := .builtin .copy, args := #[d, s], argTypes := #[dT, sT] }) (elem : TypeId) (hu : P.underlying dT = some (.slice elem)) (hsz : (P.info? elem).map (·.size) = some 1)
    (g n c : Nat) (str : ByteArray) (cur : Array Value) (t : TypeId) (hd : a.eval d = .slice (some ⟨g, 0, none⟩) n c) (hs : a.eval s = .string str) (hg : W.heap[g]? = some (.cells cur t (0, 0))) (hle : str.size ≤ n) (hfit : str.size ≤ cur.size)
    (h : wpList P ops Q rest (a.put o.dst (goInt str.size)) (W.setRow g (Lib.byteCells str.data.toList ++ cur.toList.drop str.size).toArray)) : wpList P ops Q (o :: rest) a W := by
  refine wpList_plain hgd fun K hK => ?_
  have hrun := Lib.run_copy_row_string (P := P) W dT sT o.type elem g 0 n c str cur t hu hsz hg hle (by omega)
  simp only [List.take_zero, List.nil_append, Nat.zero_add] at hrun
  unfold Oper.wp
  simp [execOp, ho, resolve, invoke, builtin, hd, hs, hrun, Result.andThen]
  exact hK _ _ h
theorem make_row (hgd : o.guard = none) (l : Operand) (t e : TypeId) (ho : o.op = .makeSlice t l l) (i : TypeInfo) (z : Value) (ht : P.underlying t = some (.slice e)) (hi : P.info? e = some i) (hz : i.zero = some z) (hs : i.size = 1)
    (n : Nat) (hl : a.eval l = .int .i64 (n : Int)) (hb : i.bytes * n ≤ 281474976710656) (h63 : n ≤ 9223372036854775807)
    (h : wpList P ops Q rest (a.put o.dst (.slice (some ⟨W.heap.size, 0, none⟩) n n)) (W.alloc (.cells (madeCells z.cells n) e))) : wpList P ops Q (o :: rest) a W := by
  refine Kd.event_run hgd ?_ h
  have hrun := run_make (P := P) W t e i z ht hi hz .i64 .i64 (n : Int) (n : Int) (by omega) (by omega) (by rw [← Int.natCast_mul]; omega) (by omega)
  rw [hs] at hrun
  simp only [Int.toNat_natCast, Nat.mul_one] at hrun
  simp [execOp, ho, hl, hrun, Result.andThen]
end
theorem made_one (v : Value) (n : Nat) : (madeCells #[v] n).toList = List.replicate n v := by
  apply List.ext_getElem
  · simp [madeCells]
  · intro i h1 h2
    simp [madeCells, Nat.mod_one]
/-- A text's bytes. -/
def sbytes (s : ByteArray) : List Int := s.data.toList.map fun b => (b.toNat : Int)
theorem sbytes_len (s : ByteArray) : (sbytes s).length = s.size := by
  simp only [sbytes, List.length_map, Array.length_toList]
  rfl
theorem copied (s : ByteArray) (n : Nat) : Lib.byteCells s.data.toList ++ (madeCells #[.int .u8 0] n).toList.drop s.size = nums .u8 (sbytes s ++ List.replicate (n - s.size) 0) := by
  rw [made_one, nums_append]
  congr 1
  · simp [Lib.byteCells, nums, sbytes]
  · simp [nums]
def lb (n k : Nat) : Int := (n : Int) * 8 / 2 ^ (8 * k) % 256
def lbs (n : Nat) : Nat → List Int
  | 0 => []
  | k + 1 => lb n k :: lbs n k
theorem lbs_len (n k : Nat) : (lbs n k).length = k := by
  induction k with
  | zero => rfl
  | succ k ih => simp [lbs, ih]
/-- How many bytes there are behind the padding. -/
def padN (n : Nat) : Nat := ((n + 8) / 64 + 1) * 64
/-- A text, a bit, noughts, the last k bytes. -/
def padK (l : List Int) (k : Nat) : List Int := l ++ (128 :: (List.replicate (padN l.length - l.length - 1 - k) 0 ++ lbs l.length k))
theorem padN_ge (n : Nat) : n + 9 ≤ padN n := by unfold padN; omega
theorem padK_len (l : List Int) (k : Nat) (hk : k ≤ 8) : (padK l k).length = padN l.length := by
  have := padN_ge l.length
  unfold padK
  simp only [List.length_append, List.length_cons, List.length_replicate, lbs_len]
  omega
theorem padK_next (l : List Int) (k : Nat) (hk : k < 8) : ((nums .u8 (padK l k)).toArray).setIfInBounds (padN l.length - 1 - k) (.int .u8 (lb l.length k)) = (nums .u8 (padK l (k + 1))).toArray := by
  have hN := padN_ge l.length
  have e : (padK l k).set (padN l.length - 1 - k) (lb l.length k) = padK l (k + 1) := by
    unfold padK
    obtain ⟨d, hd⟩ : ∃ d, padN l.length - l.length - 1 - k = d + 1 := ⟨padN l.length - l.length - 2 - k, by omega⟩
    rw [hd, show padN l.length - l.length - 1 - (k + 1) = d by omega, List.set_append_right _ _ (by omega), show padN l.length - 1 - k - l.length = d + 1 by omega, List.set_cons_succ, List.set_append_left _ _ (by simp)]
    congr 2
    rw [List.replicate_succ', List.set_append_right _ _ (by simp)]
    simp [lbs]
  rw [← e]
  simp [nums, List.map_set]
theorem padK_0 (l : List Int) : ((nums .u8 (l ++ List.replicate (padN l.length - l.length) 0)).toArray).setIfInBounds l.length (.int .u8 128) = (nums .u8 (padK l 0)).toArray := by
  have hN := padN_ge l.length
  have e : (l ++ List.replicate (padN l.length - l.length) 0).set l.length 128 = padK l 0 := by
    unfold padK
    obtain ⟨d, hd⟩ : ∃ d, padN l.length - l.length = d + 1 := ⟨padN l.length - l.length - 1, by omega⟩
    rw [hd, show d + 1 - 1 - 0 = d by omega, List.set_append_right _ _ (by omega), Nat.sub_self]
    simp [List.replicate_succ, lbs]
  rw [← e]
  simp [nums, List.map_set]
theorem padded_calls (s : ByteArray) (w : World) (hs : s.size ≤ 1000000) : Calls Try.prog 29 #[.string s] w fun e w' => ∃ g, e = .returned (.slice (some ⟨g, 0, none⟩) (padN s.size) (padN s.size)) ∧ w'.heap[g]? = some (.cells (nums .u8 (padK (sbytes s) 8)).toArray 5 (0, 0)) ∧ w.heap.size ≤ g ∧ Below w.heap.size w w' := by
  have hN := padN_ge s.size
  have hN2 : padN s.size ≤ 1000100 := by unfold padN; omega
  have hX : (((s.size : Int) + 8) / 64 + 1) * 64 = ((padN s.size : Nat) : Int) := by unfold padN; omega
  have info5 : ∃ i, Try.prog.info? 5 = some i ∧ i.zero = some (.int .u8 0) ∧ i.size = 1 ∧ i.bytes = 1 := ⟨_, rfl, rfl, rfl, rfl⟩
  obtain ⟨inf, f1, f2, f3, f4⟩ := info5
  have u26 : Try.prog.underlying 26 = some (.slice 5) := by kernel_rfl
  have F1 := Aside0.mk f1
  have F2 := Aside0.mk f2
  have F3 := Aside0.mk f3
  have F4 := Aside0.mk f4
  have U26 := Aside0.mk u26
  clear f1 f2 f3 f4 u26
  have hsz : Aside0 ((Try.prog.info? 5).map (·.size) = some 1) := ⟨by rw [F1.out]; simp [F3.out]⟩
  obtain ⟨n, hn⟩ : ∃ n, n = padN s.size := ⟨_, rfl⟩
  rw [← hn] at hX hN hN2
  have HN := Aside0.mk hn
  have HX := Aside0.mk hX
  clear hn hX
  have HL := Aside0.mk (sbytes_len s)
  go_enter Try.func29, Try.ntmps29
  go_upto_region 4 with (first | ((with_reducible refine gate_dst (N := 14) rfl ?_); refine make_row rfl (.tmp 13) 26 5 rfl inf (.int .u8 0) U26.out F1.out F2.out F3.out n (by rw [← HX.out]; rfl) (by rw [F4.out]; omega) (by omega) ?_) | ((with_reducible refine gate_dst (N := 17) rfl ?_); refine copy_str rfl (.tmp 15) (.tmp 16) 26 9 rfl 5 U26.out hsz.out _ n n s _ 5 rfl rfl (blk_new _ _) (by omega) (by rw [size_madeCells]; omega) ?_))
  have A0 : Aside0 (((w.alloc (Obj.cells (madeCells #[.int .u8 0] n) 5)).setRow w.heap.size (Lib.byteCells s.data.toList ++ (madeCells #[.int .u8 0] n).toList.drop s.size).toArray).heap[w.heap.size]? = some (.cells (nums .u8 (sbytes s ++ List.replicate (n - s.size) 0)).toArray 5 (0, 0))) := ⟨by rw [setRow_heap _ _ _ _ 5 (0, 0) (blk_new _ _), copied]⟩
  have AB : Aside0 (Below w.heap.size w ((w.alloc (Obj.cells (madeCells #[.int .u8 0] n) 5)).setRow w.heap.size (Lib.byteCells s.data.toList ++ (madeCells #[.int .u8 0] n).toList.drop s.size).toArray)) := ⟨below_setRow (below_alloc (Below.refl _ _) _) (Nat.le_refl _) _⟩
  (try simp only [Act.put, List.setIfInBounds_toArray, List.set_cons_zero, List.set_cons_succ])
  obtain ⟨g, hg⟩ : ∃ g, g = w.heap.size := ⟨_, rfl⟩
  rw [← hg] at A0 AB ⊢
  generalize (w.alloc (Obj.cells (madeCells #[.int .u8 0] n) 5)).setRow g (Lib.byteCells s.data.toList ++ (madeCells #[.int .u8 0] n).toList.drop s.size).toArray = w1 at A0 AB ⊢
  have HG := Aside0.mk hg
  clear hg
  have cw : w1.cell? ⟨g, s.size, none⟩ = some (.int .u8 ((sbytes s ++ List.replicate (n - s.size) 0).getD s.size 0)) := nums_cell A0.out s.size (by have := HL.out; simp only [List.length_append, List.length_replicate]; omega)
  have fz : w1.frozen? ⟨g, s.size, none⟩ = false := blk_frozen A0.out s.size
  have lt : s.size < n := by omega
  go_wp2
  have B0 : Aside0 ((w1.setCell ⟨g, s.size, none⟩ (.int .u8 128)).heap[g]? = some (.cells (nums .u8 (padK (sbytes s) 0)).toArray 5 (0, 0))) := ⟨blk_put A0.out _ _ (by have h := padK_0 (sbytes s); rw [HL.out, ← HN.out] at h; exact h)⟩
  have BB : Aside0 (Below g w (w1.setCell ⟨g, s.size, none⟩ (.int .u8 128))) := ⟨AB.out.setCell (by simp) _⟩
  clear A0 AB cw fz
  generalize w1.setCell ⟨g, s.size, none⟩ (.int .u8 128) = w2 at B0 BB ⊢
  go_loopw [26] (fun v26 wr => ∃ k : Nat, k ≤ 8 ∧ v26 = .int .i64 (k : Int) ∧ Aside0 (wr.heap[g]? = some (.cells (nums .u8 (padK (sbytes s) k)).toArray 5 (0, 0))) ∧ Aside0 (Below g w wr)) (fun v26 _ => 8 - (intOf v26).toNat)
  case atStart => exact ⟨0, by omega, rfl, B0, BB⟩
  case round =>
    clear B0 BB
    obtain ⟨k, hk, rfl, R0, RB⟩ := hrel
    by_cases hlt : k < 8
    · have hpl : Aside0 ((padK (sbytes s) k).length = n) := ⟨by rw [padK_len _ k hk, HL.out, HN.out]⟩
      have cw : wr.cell? ⟨g, n - 1 - k, none⟩ = some (.int .u8 ((padK (sbytes s) k).getD (n - 1 - k) 0)) := nums_cell R0.out _ (by rw [hpl.out]; omega)
      have fz : wr.frozen? ⟨g, n - 1 - k, none⟩ = false := blk_frozen R0.out _
      have p0 : (0 : Int) ≤ (n : Int) - 1 - (k : Int) := by omega
      have p1 : (n : Int) - 1 - (k : Int) < (n : Int) := by omega
      have pt : ((n : Int) - 1 - (k : Int)).toNat = n - 1 - k := by omega
      have p8 : (8 * (k : Int)).toNat = 8 * k := by omega
      go_wp2
      go_roundw
      case rel => exact ⟨k + 1, by omega, by go_num, ⟨blk_put R0.out _ _ (by have h := padK_next (sbytes s) k hlt; rw [HL.out, ← HN.out] at h; exact h)⟩, ⟨RB.out.setCell (by simp) _⟩⟩
      case measure => simp [intOf]; omega
    · have hk8 : k = 8 := by omega
      subst hk8
      go_wp2
      go_ret
      exact ⟨g, by rw [HN.out.symm]; rfl, R0.out, by rw [HG.out]; exact Nat.le_refl _, by rw [← HG.out]; exact RB.out⟩
end Go.Proofs.Ytcjkichimndioab.Given
