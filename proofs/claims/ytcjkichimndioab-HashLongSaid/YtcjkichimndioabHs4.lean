/- The walk of hash.Sum: SHA-1, in digits of sixteen. -/
import Derived.Test.YtcjkichimndioabHs3
set_option linter.unusedSimpArgs false
set_option linter.unusedVariables false
namespace Go.Proofs.Ytcjkichimndioab.Given
open Go.RowKit Go.Proofs.YtcjkichimndioabW.PrintWords
/-- The 64 bytes of block m. -/
def blkOf (L : List Int) (m : Nat) : List Int := (List.range 64).map fun j => L.getD (64 * m + j) 0
theorem blkOf_at (L : List Int) (m j : Nat) (h : j < 64) : (blkOf L m).getD j 0 = L.getD (64 * m + j) 0 := by
  unfold blkOf
  rw [List.getD_eq_getElem?_getD, List.getElem?_eq_getElem (by simpa using h)]
  simp
/-- The first m blocks taken in. -/
def fold (L : List Int) : Nat → List Int
  | 0 => [1732584193, 4023233417, 2562383102, 271733878, 3285377520]
  | m + 1 => comp (fold L m) (blkOf L m)
theorem fold5 (L : List Int) (m : Nat) : ∃ a b c d e, fold L m = [a, b, c, d, e] := by
  cases m with
  | zero => exact ⟨_, _, _, _, _, rfl⟩
  | succ m => exact ⟨_, _, _, _, _, rfl⟩
/-- The digits of sixteen. -/
def HEX : ByteArray := ⟨#[48, 49, 50, 51, 52, 53, 54, 55, 56, 57, 97, 98, 99, 100, 101, 102]⟩
def hexd (x : Int) (z : Nat) : Int := bt HEX (bits .and .u32 (x / 2 ^ z) 15)
def hexw (x : Int) : Nat → List Int
  | 0 => []
  | j + 1 => hexw x j ++ [hexd x (28 - 4 * j)]
def hexs (H : List Int) : Nat → List Int
  | 0 => []
  | k + 1 => hexs H k ++ hexw (H.getD k 0) 8
theorem hexw_len (x : Int) (j : Nat) : (hexw x j).length = j := by
  induction j with
  | zero => rfl
  | succ j ih => simp [hexw, ih]
theorem hexs_len (H : List Int) (k : Nat) : (hexs H k).length = 8 * k := by
  induction k with
  | zero => rfl
  | succ k ih => simp [hexs, ih, hexw_len]; omega
theorem getD_all {P : Int → Prop} (l : List Int) (h : ∀ y ∈ l, P y) (h0 : P 0) (k : Nat) : P (l.getD k 0) := by
  rw [List.getD_eq_getElem?_getD]
  by_cases hk : k < l.length
  · rw [List.getElem?_eq_getElem hk]
    exact h _ (List.getElem_mem hk)
  · rw [List.getElem?_eq_none (by omega)]
    exact h0
theorem addH_range (a b c d e x y z u v : Int) : ∀ r ∈ addH a b c d e x y z u v 5, 0 ≤ r ∧ r < 4294967296 := by
  intro r hr
  simp only [addH, List.mem_cons, List.not_mem_nil, or_false] at hr
  rcases hr with rfl | rfl | rfl | rfl | rfl
  all_goals (rw [if_pos (by decide)]; exact ⟨Int.emod_nonneg _ (by decide), Int.emod_lt_of_pos _ (by decide)⟩)
theorem fold_range (L : List Int) (m k : Nat) : 0 ≤ (fold L m).getD k 0 ∧ (fold L m).getD k 0 < 4294967296 := by
  refine getD_all (P := fun y => 0 ≤ y ∧ y < 4294967296) _ ?_ (by decide) k
  cases m with
  | zero =>
    intro y hy
    simp only [fold, List.mem_cons, List.not_mem_nil, or_false] at hy
    omega
  | succ m => exact addH_range _ _ _ _ _ _ _ _ _ _
theorem wrap_u32 (n : Int) (h0 : 0 ≤ n) (h1 : n < 2 ^ 32) : IntKind.u32.wrap n = n := by
  simp only [IntKind.wrap, IntKind.bits, IntKind.signed]
  have : n % 2 ^ 32 = n := Int.emod_eq_of_lt h0 (by omega)
  simp only [this]
  split
  · rename_i h; simp at h
  · rfl
theorem nib_range (x : Int) (h0 : 0 ≤ x) (h1 : x < 4294967296) (z : Nat) : 0 ≤ bits .and .u32 (x / 2 ^ z) 15 ∧ bits .and .u32 (x / 2 ^ z) 15 < 16 := by
  have e : (15 : Int) = 2 ^ 4 - 1 := by decide
  have hp : (0 : Int) < 2 ^ z := by exact_mod_cast Nat.pos_of_ne_zero (by simp)
  have h2 : 0 ≤ x / 2 ^ z := Int.ediv_nonneg h0 (Int.le_of_lt hp)
  have h3 : x / 2 ^ z ≤ x := Int.ediv_le_self _ h0
  rw [e, bits_mask .u32 32 (by decide) wrap_u32 4 (by decide) _ h2 (by omega)]
  omega
/-- A text's sum. -/
def sumB (s : ByteArray) : ByteArray := strOfNums (hexs (fold (padK (sbytes s) 8) ((s.size + 8) / 64 + 1)) 5)
theorem sum_calls (s : ByteArray) (w : World) (hs : s.size ≤ 1000000) : Calls Try.prog 13 #[.string s] w fun e w' => e = .returned (.string (sumB s)) ∧ Below w.heap.size w w' := by
  obtain ⟨S5, hS5⟩ : ∃ S5, S5 = sumB s := ⟨_, rfl⟩
  rw [← hS5]
  have HS5 := Aside0.mk hS5
  clear hS5
  have HS := Aside0.mk hs
  have info5 : Aside0 ((Try.prog.info? 5).map (fun i => (i.zero, i.size, i.bytes)) = some (some (.int .u8 0), 1, 1)) := ⟨by kernel_rfl⟩
  have U26 : Aside0 (Try.prog.underlying 26 = some (.slice 5)) := ⟨by kernel_rfl⟩
  go_enter Try.func13, Try.ntmps13
  go_wp2_with (first | (go_at_call 29; refine (padded_calls s _ HS.out).mono ?_; rintro e w1 ⟨g, rfl, hg1, hg2, hB⟩; have G1 := Aside0.mk hg1; have G2 := Aside0.mk hg2; have GB := Aside0.mk hB; clear hg1 hg2 hB))
  obtain ⟨L, hL⟩ : ∃ L, L = padK (sbytes s) 8 := ⟨_, rfl⟩
  have HL : Aside0 (L = padK (sbytes s) 8) := ⟨hL⟩
  clear hL
  obtain ⟨q, hq⟩ : ∃ q, q = (s.size + 8) / 64 + 1 := ⟨_, rfl⟩
  have hpn : padN s.size = 64 * q := by rw [hq]; unfold padN; omega
  have HQ : Aside0 (q = (s.size + 8) / 64 + 1) := ⟨hq⟩
  have hLl : Aside0 (L.length = 64 * q) := ⟨by rw [HL.out, padK_len _ 8 (by omega), sbytes_len, hpn]⟩
  have hq2 : q ≤ 20000 := by rw [hq]; omega
  clear hq
  rw [hpn]
  obtain ⟨gh, hgh⟩ : ∃ gh, gh = w.heap.size := ⟨_, rfl⟩
  have A0 : Aside0 (w1.heap[gh]? = some (.cells (nums .u32 (fold L 0)).toArray 52 (0, 0))) := ⟨by
    rw [hgh]
    refine (GB.out.block w.heap.size (by simp)).trans (blk_new _ _)⟩
  have A1 : Aside0 (w1.heap[g]? = some (.cells (nums .u8 L).toArray 5 (0, 0))) := ⟨by rw [HL.out]; exact G1.out⟩
  have hne : gh < g := by have h := G2.out; simp at h; omega
  have AB : Aside0 (Below gh w w1) := ⟨by
    have h := below_then (B := w.heap.size) (below_alloc (Below.refl w.heap.size w) (.cells #[.int .u32 1732584193, .int .u32 4023233417, .int .u32 2562383102, .int .u32 271733878, .int .u32 3285377520] 52)) (by simp) GB.out
    rw [hgh]
    exact h⟩
  rw [← hgh]
  have HGH := Aside0.mk hgh
  clear hgh G1 G2 GB hpn
  go_loopw [4] (fun v4 wr => ∃ r m off : Nat, m + r = q ∧ (0 < r → off = 64 * m) ∧ v4 = .slice (some ⟨g, off, none⟩) (64 * r) (64 * r) ∧ Aside0 (wr.heap[gh]? = some (.cells (nums .u32 (fold L m)).toArray 52 (0, 0))) ∧ Aside0 (wr.heap[g]? = some (.cells (nums .u8 L).toArray 5 (0, 0))) ∧ Aside0 (Below gh w wr)) (fun v4 _ => match v4 with | .slice _ n _ => n | _ => 0)
  case atStart => exact ⟨q, 0, 0, by omega, fun _ => rfl, rfl, A0, A1, AB⟩
  case round =>
    clear A0 A1 AB
    obtain ⟨r, m, off, hmr, hoff, rfl, R0, R1, RB⟩ := hrel
    cases r with
    | zero =>
      have hmq : m = q := by omega
      subst hmq
      obtain ⟨a, b, cc, d, e, hf⟩ := fold5 L m
      have HF := Aside0.mk hf
      clear hf
      have R0' : Aside0 (wr.heap[gh]? = some (.cells (nums .u32 [a, b, cc, d, e]).toArray 52 (0, 0))) := ⟨by rw [← HF.out]; exact R0.out⟩
      have x0 := nums_cell R0'.out 0 (by simp)
      have x1 := nums_cell R0'.out 1 (by simp)
      have x2 := nums_cell R0'.out 2 (by simp)
      have x3 := nums_cell R0'.out 3 (by simp)
      have x4 := nums_cell R0'.out 4 (by simp)
      have hgb : gh ≤ wr.heap.size := Nat.le_of_lt (blk_lt R0.out)
      go_wp2
      clear x0 x1 x2 x3 x4 R0 R0' R1
      simp only [Nat.mul_zero]
      go_loopw [5, 21] (fun v5 v21 ws => ∃ k : Nat, k ≤ 5 ∧ v21 = .int .i64 (k : Int) ∧ Aside0 (Kd.R (Kd.int .u8) 5 ws gh (fun _ => True) v5 (hexs [a, b, cc, d, e] k)) ∧ Aside0 (Below gh w ws) ∧ Aside0 (gh ≤ ws.heap.size)) (fun _ v21 _ => 5 - (intOf v21).toNat)
      case atStart => exact ⟨0, by omega, rfl, ⟨Kd.R_nil _ _ _ _ _⟩, RB, ⟨hgb⟩⟩
      case round =>
        clear RB hgb
        obtain ⟨k, hk, rfl, RO, RB, RS⟩ := hrel
        by_cases hk5 : k < 5
        · have gi : ∀ w : World, (Instr.index 52 (.agg #[.int .u32 a, .int .u32 b, .int .u32 cc, .int .u32 d, .int .u32 e]) (.int .i64 (k : Int))).run Try.prog w = .ok (.int .u32 ([a, b, cc, d, e].getD k 0)) w := by
            have h5 : k = 0 ∨ k = 1 ∨ k = 2 ∨ k = 3 ∨ k = 4 := by omega
            rcases h5 with rfl | rfl | rfl | rfl | rfl
            all_goals exact fun _ => by kernel_rfl
          obtain ⟨x, hx⟩ : ∃ x, x = [a, b, cc, d, e].getD k 0 := ⟨_, rfl⟩
          rw [← hx] at gi
          have HX := Aside0.mk hx
          clear hx
          go_wp2
          have hkd : decide ((k : Int) < 5) = true := by simp; omega
          rw [hkd]
          clear hkd
          go_loopw [5, 8] (fun v5 v8 ws => ∃ j : Nat, j ≤ 8 ∧ v8 = .int .i64 (28 - 4 * (j : Int)) ∧ Aside0 (Kd.R (Kd.int .u8) 5 ws gh (fun _ => True) v5 (hexs [a, b, cc, d, e] k ++ hexw x j)) ∧ Aside0 (Below gh w ws) ∧ Aside0 (gh ≤ ws.heap.size)) (fun _ v8 _ => (intOf v8 + 4).toNat)
          case atStart => exact ⟨0, by omega, rfl, ⟨by rw [hexw, List.append_nil]; exact RO.out⟩, RB, RS⟩
          case round =>
            clear RO RB RS
            obtain ⟨j, hj, rfl, RO, RB, RS⟩ := hrel
            by_cases hj8 : j < 8
            · have p0 : (0 : Int) ≤ 28 - 4 * (j : Int) := by omega
              have pt : (28 - 4 * (j : Int)).toNat = 28 - 4 * j := by omega
              have pj : 0 ≤ bits .and .u32 (x / 2 ^ (28 - 4 * j)) 15 ∧ bits .and .u32 (x / 2 ^ (28 - 4 * j)) 15 < 16 := by
                have hr := fold_range L m k
                rw [HF.out, ← HX.out] at hr
                exact nib_range x hr.1 hr.2 _
              have pj0 := pj.1
              have pj1 := pj.2
              clear pj
              have hb : ∀ h, (((⟨#[48, 49, 50, 51, 52, 53, 54, 55, 56, 57, 97, 98, 99, 100, 101, 102]⟩ : ByteArray)[(bits .and .u32 (x / 2 ^ (28 - 4 * j)) 15).toNat]'h).toNat : Int) = hexd x (28 - 4 * j) := bt_at HEX _
              have hlen : (hexs [a, b, cc, d, e] k ++ hexw x j).length ≤ 48 := by
                have h1 : ∀ i, (hexw x i).length = i := hexw_len x
                rw [List.length_append, hexs_len, h1]
                omega
              have HLE := Aside0.mk hlen
              clear hlen
              go_wp2_with (first | (at_builtin; refine Kd.R_append (Kd.int .u8) (w0 := w) gh rfl (.tmp 28) (.tmp 34) 26 5 (.int .u8 0) 1 rfl U26.out info5.out rfl (by decide) (by omega) _ (hexs [a, b, cc, d, e] k ++ hexw x j) (hexd x (28 - 4 * j)) [.int .u8 (hexd x (28 - 4 * j))] (fun _ => True) (fun _ => False) rfl rfl ?aP (fun _ hk => hk.elim) ?aF ?aO ?aB ?aS ?aL ?_; (case aP => exact rfl); (case aB => exact RB.out); (case aF => exact (fun _ _ => trivial)); (case aO => exact RO.out); (case aS => exact RS.out); (case aL => have := HLE.out; omega); intro v7 w7 ho hb7 hg7 hat; have HO7 := Aside0.mk ho; have HB7 := Aside0.mk hb7; have HS7 : Aside0 (gh ≤ w7.heap.size) := ⟨Nat.le_trans RS.out hg7.size⟩; clear ho hb7 hg7 hat))
              go_roundw
              case rel => exact ⟨j + 1, by omega, by go_num, ⟨by rw [hexw, ← List.append_assoc]; exact HO7.out⟩, HB7, HS7⟩
              case measure => simp [intOf]; omega
            · have hj8' : j = 8 := by omega
              subst hj8'
              go_wp2
              go_roundw
              case rel => exact ⟨k + 1, by omega, by go_num, ⟨by rw [hexs, ← HX.out]; exact RO.out⟩, RB, RS⟩
              case measure => simp [intOf]; omega
        · have hk5' : k = 5 := by omega
          subst hk5'
          have hcv : ∀ v, Kd.R (Kd.int .u8) 5 wr gh (fun _ => True) v (hexs [a, b, cc, d, e] 5) → (convert 26 9 v).run Try.prog wr = .ok (.string (strOfNums (hexs [a, b, cc, d, e] 5))) wr := fun v h => own_string (e := 5) (by kernel_rfl) (by kernel_rfl) (by kernel_rfl) (Kd.own_of_R h)
          have hc := hcv _ RO.out
          clear hcv
          obtain ⟨T, hT⟩ : ∃ T, T = strOfNums (hexs [a, b, cc, d, e] 5) := ⟨_, rfl⟩
          rw [← hT] at hc
          have HT := Aside0.mk hT
          clear hT
          go_wp2
          go_ret
          refine ⟨?_, by rw [← HGH.out]; exact RB.out⟩
          rw [HT.out, ← HF.out, HS5.out]
          unfold sumB
          rw [← HL.out, ← HQ.out]
          rfl
    | succ r =>
      have ho : off = 64 * m := hoff (by omega)
      subst ho
      clear hoff
      obtain ⟨a, b, cc, d, e, hf⟩ := fold5 L m
      have HF := Aside0.mk hf
      clear hf
      have hcells : Aside0 (∀ j, j < 64 → wr.cell? ⟨g, 64 * m + j, none⟩ = some (.int .u8 ((blkOf L m).getD j 0))) := ⟨fun j hj => by
        rw [blkOf_at L m j hj]
        exact nums_cell R1.out _ (by rw [hLl.out]; omega)⟩
      have R0' : Aside0 (wr.heap[gh]? = some (.cells (nums .u32 [a, b, cc, d, e]).toArray 52 (0, 0))) := ⟨by rw [← HF.out]; exact R0.out⟩
      by_cases hr : r = 0
      · subst hr
        go_wp2_with (first | (go_at_call 30; refine (take_calls a b cc d e (blkOf L m) gh g (64 * m) _ _ R0'.out hcells.out).mono ?_; rintro e' w2 ⟨rfl, h1, h2⟩; have S0 := Aside0.mk h1; have SG := Aside0.mk h2; clear h1 h2))
        go_roundw
        case rel => exact ⟨0, m + 1, _, by omega, by omega, rfl, ⟨by show w2.heap[gh]? = some (.cells (nums .u32 (comp (fold L m) (blkOf L m))).toArray 52 (0, 0)); rw [HF.out]; exact S0.out⟩, ⟨(SG.out.block g (blk_lt R1.out) (by simp; omega)).trans R1.out⟩, ⟨pw_below_grown RB.out (some gh) (Nat.le_of_lt (blk_lt R0.out)) SG.out (by intro k hk; cases hk; exact Nat.le_refl _)⟩⟩
        case measure => simp
      · have c1 : ¬ (64 * (r + 1) = 64) := by omega
        have c2 : (64 : Int) ≤ ((64 * (r + 1) : Nat) : Int) := by omega
        go_wp2_with (first | (go_at_call 30; refine (take_calls a b cc d e (blkOf L m) gh g (64 * m) _ _ R0'.out hcells.out).mono ?_; rintro e' w2 ⟨rfl, h1, h2⟩; have S0 := Aside0.mk h1; have SG := Aside0.mk h2; clear h1 h2))
        go_roundw
        case rel => exact ⟨r, m + 1, 64 * (m + 1), by omega, fun _ => rfl, by rw [show 64 * m + 64 = 64 * (m + 1) by omega, show 64 * (r + 1) - 64 = 64 * r by omega], ⟨by show w2.heap[gh]? = some (.cells (nums .u32 (comp (fold L m) (blkOf L m))).toArray 52 (0, 0)); rw [HF.out]; exact S0.out⟩, ⟨(SG.out.block g (blk_lt R1.out) (by simp; omega)).trans R1.out⟩, ⟨pw_below_grown RB.out (some gh) (Nat.le_of_lt (blk_lt R0.out)) SG.out (by intro k hk; cases hk; exact Nat.le_refl _)⟩⟩
        case measure => simp; omega
end Go.Proofs.Ytcjkichimndioab.Given
