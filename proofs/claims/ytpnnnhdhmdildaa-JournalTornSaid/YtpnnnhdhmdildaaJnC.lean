import Derived.Test.YtpnnnhdhmdildaaWithin
import Derived.Test.YtpnnnhdhmdildaaJnB
import Derived.Laws.MakeOwn
import Derived.Laws.BytesArg
import Derived.Deep.Slices
import Derived.Lib.SmallJoins
section
/- Chapter 6's texts of asks: 100 bytes at most. -/
set_option linter.unusedVariables false
set_option linter.unusedSimpArgs false
namespace Go.Proofs.Ytpnnnhdhmdildaa.Given
open Go.RowKit Go.Proofs.YtpnnnhdhmdildaaW.PrintWords
theorem make_row {P : Program} {ops : Array Oper} {rest : List Oper} {o : Oper} {a : Act} {Q : Exit → Act → World → Prop} {W : World} (hgd : o.guard = none) (l : Operand) (t e : TypeId) (ho : o.op = .makeSlice t l l) (i : TypeInfo) (z : Value) (ht : P.underlying t = some (.slice e)) (hi : P.info? e = some i) (hz : i.zero = some z) (hs : i.size = 1)
    (n : Nat) (hl : a.eval l = .int .i64 (n : Int)) (hb : i.bytes * n ≤ 281474976710656) (h63 : n ≤ 9223372036854775807)
    (h : wpList P ops Q rest (a.put o.dst (.slice (some ⟨W.heap.size, 0, none⟩) n n)) (W.alloc (.cells (madeCells z.cells n) e))) : wpList P ops Q (o :: rest) a W := by
  refine Kd.event_run hgd ?_ h
  have hrun := run_make (P := P) W t e i z ht hi hz .i64 .i64 (n : Int) (n : Int) (by omega) (by omega) (by rw [← Int.natCast_mul]; omega) (by omega)
  rw [hs] at hrun
  simp only [Int.toNat_natCast, Nat.mul_one] at hrun
  simp [execOp, ho, hl, hrun, Result.andThen]
theorem made_one (v : Value) (n : Nat) : (madeCells #[v] n).toList = List.replicate n v := by
  apply List.ext_getElem
  · simp [madeCells]
  · intro i h1 h2
    simp [madeCells, Nat.mod_one]
theorem made_nums (n : Nat) : madeCells #[.int .u8 0] n = (nums .u8 (List.replicate n 0)).toArray := by
  apply Array.toList_inj.1
  rw [made_one]
  simp [nums]
theorem nums_cell {w : World} {g : Nat} {t : TypeId} {k : IntKind} {l : List Int} (h : w.heap[g]? = some (.cells ((nums k l).toArray) t (0, 0))) (j : Nat) (hj : j < l.length) : w.cell? ⟨g, j, none⟩ = some (.int k (l.getD j 0)) := by
  rw [blk_cell h j]
  simp [nums, hj, List.getD_eq_getElem?_getD]
theorem nums_set (bs : List Int) (k : Nat) (x : Int) : ((nums .u8 bs).toArray).setIfInBounds k (.int .u8 x) = (nums .u8 (bs.set k x)).toArray := by
  apply Array.toList_inj.1
  simp [nums, List.map_set]
set_option maxRecDepth 100000 in
set_option maxHeartbeats 1000000 in
theorem text_call (a0 a1 a2 z c : Int) (w : World) :
    Calls Try.prog 17 #[.agg #[.int .i64 a0, .int .i64 a1, .int .i64 a2, .int .i64 z, .int .u8 c]] w fun e w' => ∃ s : ByteArray, e = .returned (.string s) ∧ s.size ≤ 100 ∧ Below w.heap.size w w' := by
  obtain ⟨inf, f1, f2, f3, f4⟩ : ∃ i, Try.prog.info? 5 = some i ∧ i.zero = some (.int .u8 0) ∧ i.size = 1 ∧ i.bytes = 1 := ⟨_, rfl, rfl, rfl, rfl⟩
  have F1 := Aside0.mk f1
  have F2 := Aside0.mk f2
  have F3 := Aside0.mk f3
  have F4 := Aside0.mk f4
  clear f1 f2 f3 f4
  go_enter Try.func17, Try.ntmps17
  go_wp2_with (first
    | (go_at_call 18; refine (within_call z 0 100 _ (by decide) (by decide) (by decide)).mono ?_; rintro e w1 ⟨rr, rfl, r0, r1, hd⟩; obtain ⟨r, rfl⟩ : ∃ r : Nat, rr = r := ⟨rr.toNat, by omega⟩; obtain ⟨⟨nd, rfl⟩⟩ := hd)
    | ((with_reducible refine gate_dst (N := 8) rfl ?_); refine make_row rfl (.tmp 7) 37 5 rfl inf (.int .u8 0) Try.underlying37 F1.out F2.out F3.out r rfl (by rw [F4.out]; omega) (by omega) ?_))
  have A0 : Aside0 (((((w.alloc (.cells #[.int .i64 a0, .int .i64 a1, .int .i64 a2, .int .i64 z, .int .u8 c] 35)).drewN nd).alloc (.cells (madeCells #[.int .u8 0] r) 5)).heap[w.heap.size + 1]?) = some (.cells (nums .u8 (List.replicate r 0)).toArray 5 (0, 0))) := ⟨by
    have := World.alloc_heap_new ((w.alloc (.cells #[.int .i64 a0, .int .i64 a1, .int .i64 a2, .int .i64 z, .int .u8 c] 35)).drewN nd) (.cells (madeCells #[.int .u8 0] r) 5)
    rw [show ((w.alloc (.cells #[.int .i64 a0, .int .i64 a1, .int .i64 a2, .int .i64 z, .int .u8 c] 35)).drewN nd).heap.size = w.heap.size + 1 from World.size_alloc _ _] at this
    rw [this, made_nums]⟩
  have BL : Aside0 (Below w.heap.size w (((w.alloc (.cells #[.int .i64 a0, .int .i64 a1, .int .i64 a2, .int .i64 z, .int .u8 c] 35)).drewN nd).alloc (.cells (madeCells #[.int .u8 0] r) 5))) :=
    ⟨balloc _ (((Below.refl _ w).alloc (Nat.le_refl _) _).trans ((Drawn0.below ⟨⟨nd, rfl⟩⟩).mono (by rw [World.size_alloc]; omega))) (Nat.le_refl _)⟩
  have BX : Aside0 ((((w.alloc (.cells #[.int .i64 a0, .int .i64 a1, .int .i64 a2, .int .i64 z, .int .u8 c] 35)).drewN nd).alloc (.cells (madeCells #[.int .u8 0] r) 5)).heap[w.heap.size]? = some (.cells #[.int .i64 a0, .int .i64 a1, .int .i64 a2, .int .i64 z, .int .u8 c] 35 (0, 0))) :=
    ⟨blk_alloc (blk_drewN (blk_new w _) nd) _⟩
  generalize ((w.alloc (.cells #[.int .i64 a0, .int .i64 a1, .int .i64 a2, .int .i64 z, .int .u8 c] 35)).drewN nd).alloc (.cells (madeCells #[.int .u8 0] r) 5) = W0 at A0 BL BX ⊢
  go_loopw [11] (fun v11 wr => ∃ (k : Nat) (bs : List Int), k ≤ r ∧ v11 = .int .i64 (k : Int) ∧ bs.length = r ∧ Aside0 (wr.heap[w.heap.size + 1]? = some (.cells (nums .u8 bs).toArray 5 (0, 0))) ∧ Aside0 (Below w.heap.size w wr) ∧ Aside0 (wr.heap[w.heap.size]? = some (.cells #[.int .i64 a0, .int .i64 a1, .int .i64 a2, .int .i64 z, .int .u8 c] 35 (0, 0)))) (fun v11 _ => r - (intOf v11).toNat)
  case atStart => exact ⟨0, List.replicate r 0, by omega, rfl, by simp, A0, BL, BX⟩
  case round =>
    clear A0 BL BX
    obtain ⟨k, bs, hk, rfl, hl, A1, BL1, BX1⟩ := hrel
    have hl' := Aside0.mk hl
    clear hl
    by_cases hlt : k < r
    · have c4 : wr.cell? ⟨w.heap.size, 4, none⟩ = some (.int .u8 c) := (Lib.cell_of_heap BX1.out 4).trans rfl
      have ck := nums_cell A1.out k (by rw [hl'.out]; exact hlt)
      have fk := blk_frozen A1.out k
      go_wp2
      go_roundw
      case rel => exact ⟨k + 1, bs.set k _, by omega, by go_num, by simp [hl'.out], ⟨blk_put A1.out _ _ (nums_set _ _ _)⟩, ⟨BL1.out.setCell (by simp) _⟩, ⟨(Below.heap_setCell _ _ _ _ (by simp)).trans BX1.out⟩⟩
      case measure => simp [intOf]; omega
    · have cv : (convert 37 9 (.slice (some ⟨w.heap.size + 1, 0, none⟩) r r)).run Try.prog wr = .ok (.string (strOfNums bs)) wr := by
        refine run_convert_bytes_arg _ 37 5 Try.underlying37 Try.underlying5 (w.heap.size + 1) 0 r r bs (by rw [hl'.out]) (fun i hi => ?_) 9 Try.underlying9
        rw [Nat.zero_add, nums_cell A1.out i (by rw [hl'.out]; omega)]
      go_wp2
      go_ret
      exact ⟨_, rfl, by simp [strOfNums, ByteArray.size]; have := hl'.out; omega, BL1.out⟩
end Go.Proofs.Ytpnnnhdhmdildaa.Given
end
section
/- Chapter 6's closed sentence: one transaction, one that is torn, opened anew. No condition. -/
set_option linter.unusedVariables false
set_option linter.unusedSimpArgs false
namespace Go.Proofs.Ytpnnnhdhmdildaa.Given
open Go.RowKit Go.Proofs.YtpnnnhdhmdildaaW.PrintWords Go.Proofs.Ytpnnnhdhmdildaa.J Go.Proofs.Ytpnnnhdhmdildaa.RF
set_option maxRecDepth 100000 in
set_option maxHeartbeats 2000000 in
theorem runs_walk (w : World) : Calls Try.prog 3 #[] w fun e w' => e = .returned (.bool true) ∧ Below w.heap.size w w' := by
  have n1 : np ⟨#[104, 101, 108, 108, 111]⟩ = 1 := np_short (by decide)
  have n2 : np ⟨#[97, 103, 97, 105, 110]⟩ = 1 := np_short (by decide)
  have n3 : np ⟨#[]⟩ = 1 := np_short (by decide)
  have hN := newD_ok 9 (by decide) (by decide)
  have hL : (newD 9).secs.length = 9 := by simp [newD]
  have hG := newD_good 9
  obtain ⟨q1, hc1, hl1, hg1, ho1⟩ := commit_ok (J := ⟨[], 0, false⟩) hG hN rfl rfl ⟨#[104, 101, 108, 108, 111]⟩ (by rw [n1, hL]; decide) (.inl rfl) (by rw [n1]; decide)
  rw [n1] at hc1 hg1 ho1
  have ho1' : DS.Ok { secs := q1, armed := true, left := 0, keep := 31, down := false } := ok_of ho1 _ _ _ _ (by decide) (by decide) (by decide) (by decide)
  obtain ⟨q2, hc2, hl2, ho2, hg2⟩ := commit_tears (J := ⟨[⟨#[104, 101, 108, 108, 111]⟩], 1, false⟩) (D := { secs := q1, armed := true, left := 0, keep := 31, down := false }) (m := 0) hg1 ho1' rfl rfl ⟨#[97, 103, 97, 105, 110]⟩ (by rw [n2]; show 1 + 1 ≤ q1.length; omega) rfl rfl (by rw [n2]; decide)
  rw [if_neg (by rintro ⟨_, h⟩; exact absurd (show (31 : Int) = 32 from h) (by decide))] at hg2
  have ho2' : DS.Ok { secs := q2, armed := false, left := 0, keep := 31, down := false } := ok_of ho2 _ _ _ _ (by decide) (by decide) (by decide) (by decide)
  have b1 := Aside0.mk (show -4611686018427387904 + 2001 ≤ (newD 9).left by decide)
  have b2 := Aside0.mk (show (JS.mk [] 0 false).e ≤ 2000 by decide)
  have b3 := Aside0.mk (show (JS.mk [] 0 false).l.length ≤ 2000 by decide)
  have b4 := Aside0.mk (show -4611686018427387904 + 2001 ≤ ({ secs := q1, armed := true, left := 0, keep := 31, down := false } : DS).left by show (-4611686018427387904 + 2001 : Int) ≤ 0; decide)
  have b5 := Aside0.mk (show (JS.mk [⟨#[104, 101, 108, 108, 111]⟩] 1 false).e ≤ 2000 by decide)
  have b6 := Aside0.mk (show (JS.mk [⟨#[104, 101, 108, 108, 111]⟩] 1 false).l.length ≤ 2000 by decide)
  have C1 := Aside0.mk hc1
  have C2 := Aside0.mk hc2
  have N1 := Aside0.mk n1
  have N3 := Aside0.mk n3
  have O1 := Aside0.mk ho1'
  have O2 := Aside0.mk ho2'
  have G2 := Aside0.mk hg2
  clear hc1 hc2 hl1 hl2 hg1 hL ho1 ho1' ho2 ho2' hg2 n1 n2 n3
  go_enter Try.func3, Try.ntmps3
  go_wp2_with (first
    | (go_at_call 9; (with_reducible refine (new_l 9 9 _ (by decide)).mono ?_); rintro e w1 ⟨p, g, rfl, h⟩; have HA := Aside0.mk h; clear h)
    | (go_at_call 10; (with_reducible refine (open_l HA.out hN hG).mono ?_); rintro e w2 ⟨q, v, rfl, h, _, _, _⟩; have HB := Aside0.mk h; clear h HA)
    | (go_at_call 11; (with_reducible refine (commit_l HB.out hN b1.out b2.out b3.out ⟨#[104, 101, 108, 108, 111]⟩ (by decide) C1.out).mono ?_); rintro e w3 ⟨rfl, v1, h, _, _⟩; have HC := Aside0.mk h; clear h HB)
    | (go_at_call 12; (with_reducible refine (arm_l HC.out 0 31).mono ?_); rintro e w4 ⟨rfl, h, _⟩; have HD := Aside0.mk (show LJ w p g q v1 ⟨[⟨#[104, 101, 108, 108, 111]⟩], 1, false⟩ { secs := q1, armed := true, left := 0, keep := 31, down := false } w4 from h); clear h HC)
    | (go_at_call 11; (with_reducible refine (commit_l HD.out O1.out b4.out b5.out b6.out ⟨#[97, 103, 97, 105, 110]⟩ (by decide) C2.out).mono ?_); rintro e w5 ⟨rfl, v2, h, _, _⟩; have HE := Aside0.mk h; clear h HD)
    | (go_at_call 13; (with_reducible refine (revive_l HE.out).mono ?_); rintro e w6 ⟨rfl, h, _⟩; have HF := Aside0.mk (show LJ w p g q v2 ⟨[⟨#[104, 101, 108, 108, 111]⟩], 1, true⟩ { secs := q2, armed := false, left := 0, keep := 31, down := false } w6 from h); clear h HE)
    | (go_at_call 10; (with_reducible refine (open_l HF.out.ld O2.out G2.out).mono ?_); rintro e w7 ⟨q', v3, rfl, h, _, _, _⟩; have HG := Aside0.mk h; clear h HF)
    | (go_at_call 14; (with_reducible refine (len_l HG.out (n := 1) rfl).mono ?_); rintro e w8 ⟨rfl, h, _⟩; have HH := Aside0.mk h; clear h HG)
    | (go_at_call 15; (with_reducible refine (end_l HH.out (n := 1) rfl).mono ?_); rintro e w9 ⟨rfl, h, _⟩; have HI := Aside0.mk h; clear h HH)
    | (go_at_call 16; (with_reducible refine (pieces_l ⟨#[104, 101, 108, 108, 111]⟩ _ (by decide)).mono ?_); rintro e w10 ⟨a1, cap1, rfl, h⟩; have HJ := Aside0.mk (HI.out.step h.below); rw [N1.out]; clear h HI)
    | (go_at_call 16; (with_reducible refine (pieces_l ⟨#[]⟩ _ (by decide)).mono ?_); rintro e w11 ⟨a2, cap2, rfl, h⟩; have HK := Aside0.mk (HJ.out.step h.below); rw [N3.out]; clear h))
  go_ret
  exact ⟨rfl, HK.out.below⟩
end Go.Proofs.Ytpnnnhdhmdildaa.Given
end
section
/- What the laws with lists of asks carry. -/
set_option linter.unusedVariables false
set_option linter.unusedSimpArgs false
namespace Go.Proofs.Ytpnnnhdhmdildaa.Given
open Go.RowKit Go.Proofs.YtpnnnhdhmdildaaW.PrintWords Go.Proofs.Ytpnnnhdhmdildaa.J Go.Proofs.Ytpnnnhdhmdildaa.RF Go.ChangeShapes Go.WideShapes
/-- The k-th ask's cells. -/
def AskAt (w : World) (x : Addr) (k : Nat) : Prop := ∃ (a b c d z : Int), (Lit.int .i64 a).wf = true ∧ (Lit.int .i64 b).wf = true ∧ (Lit.int .i64 c).wf = true ∧ (Lit.int .i64 d).wf = true ∧ (Lit.int .u8 z).wf = true ∧
  w.cell? ((x.add (k * 5)).add 0) = some (.int .i64 a) ∧ w.cell? ((x.add (k * 5)).add 1) = some (.int .i64 b) ∧ w.cell? ((x.add (k * 5)).add 2) = some (.int .i64 c) ∧ w.cell? ((x.add (k * 5)).add 3) = some (.int .i64 d) ∧ w.cell? ((x.add (k * 5)).add 4) = some (.int .u8 z)
def AskRow (w : World) (a : Option Addr) (len cap : Nat) : Prop :=
  (a = none ∧ len = 0 ∧ cap = 0) ∨ ∃ x, a = some x ∧ len ≤ cap ∧ cap ≤ maxLen ∧ ∀ k, k < len → AskAt w x k
theorem ask_row {H : Type} {enc : TypeId × Value → H} {P : Program} {W : World} {base : Nat} {spare : Nat → Bool} {held : Bool} {t e : TypeId} {f0 f1 f2 f3 f4 : Field} {a : Option Addr} {len cap : Nat} {d : DataW H} {ps : List MemPlace}
    (hu : P.underlying t = some (.slice e)) (he : P.underlying e = some (.struct #[f0, f1, f2, f3, f4])) (hc : P.cellsOf e = 5)
    (k0 : P.underlying f0.type = some (.int .i64)) (k1 : P.underlying f1.type = some (.int .i64)) (k2 : P.underlying f2.type = some (.int .i64)) (k3 : P.underlying f3.type = some (.int .i64)) (k4 : P.underlying f4.type = some (.int .u8))
    (o0 : f0.offset = 0 ∧ P.cellsOf f0.type = 1) (o1 : f1.offset = 1 ∧ P.cellsOf f1.type = 1) (o2 : f2.offset = 2 ∧ P.cellsOf f2.type = 1) (o3 : f3.offset = 3 ∧ P.cellsOf f3.type = 1) (o4 : f4.offset = 4 ∧ P.cellsOf f4.type = 1)
    (h : DataW.Trod enc P W base spare held t (.slice a len cap) d ps) : AskRow W a len cap := by
  obtain ⟨fuel, hf⟩ := h
  rcases Go.Deep.open_slice hu hf with ⟨hcs, _⟩ | ⟨x, l, c, m, n, D, Pl, hcs, _, hl, hm, hmm, _, hx⟩
  · simp [Value.cells] at hcs
    obtain ⟨rfl, rfl, rfl⟩ := hcs
    exact .inl ⟨rfl, rfl, rfl⟩
  · simp [Value.cells] at hcs
    obtain ⟨rfl, rfl, rfl⟩ := hcs
    refine .inr ⟨x, rfl, hl, hm, fun k hk => ?_⟩
    obtain ⟨cs', h1, h2⟩ := hx k (by rw [hmm]; split <;> omega)
    rw [hc] at h1
    obtain ⟨_, hlen, hcell⟩ := World.cells?_some h1
    obtain ⟨xs, n', _, _, _, hxl, hf⟩ := DataW.trod_struct he h2
    match xs, hxl, cs', hlen with
    | [y0, y1, y2, y3, y4], _, [c0, c1, c2, c3, c4], _ =>
      have t0 := hf 0 f0 rfl
      have t1 := hf 1 f1 rfl
      have t2 := hf 2 f2 rfl
      have t3 := hf 3 f3 rfl
      have t4 := hf 4 f4 rfl
      rw [o0.1, o0.2] at t0
      rw [o1.1, o1.2] at t1
      rw [o2.1, o2.2] at t2
      rw [o3.1, o3.2] at t3
      rw [o4.1, o4.2] at t4
      obtain ⟨a0, e0, _, w0⟩ := DataW.trod_int k0 t0
      obtain ⟨a1, e1, _, w1⟩ := DataW.trod_int k1 t1
      obtain ⟨a2, e2, _, w2⟩ := DataW.trod_int k2 t2
      obtain ⟨a3, e3, _, w3⟩ := DataW.trod_int k3 t3
      obtain ⟨a4, e4, _, w4⟩ := DataW.trod_int k4 t4
      simp at e0 e1 e2 e3 e4
      subst e0 e1 e2 e3 e4
      have hcell : ∀ i, i < 5 → W.cell? ((x.add (k * 5)).add i) = [Value.int .i64 a0, .int .i64 a1, .int .i64 a2, .int .i64 a3, .int .u8 a4][i]? := hcell
      exact ⟨a0, a1, a2, a3, a4, w0, w1, w2, w3, w4, hcell 0 (by decide), hcell 1 (by decide), hcell 2 (by decide), hcell 3 (by decide), hcell 4 (by decide)⟩
theorem own_ch' {S : Nat → Prop} {w w' : World} {B t e n : Nat} {v : Value} {xs : List Value} (h : w.ownsRow B t e v n xs) (hc : Ch S w w') (hS : ∀ x, v.ownBlock = some x → ¬ S x) : w'.ownsRow B t e v n xs := by
  refine ⟨h.1, ?_⟩
  rcases h.2 with hn | ⟨g', cap', cur, hv, hbg, hgg, rest⟩
  · exact .inl hn
  · exact .inr ⟨g', cap', cur, hv, hbg, (hc.block g' (Array.getElem?_eq_some_iff.1 hgg).1 (hS g' (by rw [hv]; rfl))).trans hgg, rest⟩
/-- What such a law carries. -/
structure MS (w w0 : World) (xw p g q : Nat) (v : Value) (J : JS) (D : DS) (vw : Value) (wl : List ByteArray) (W : World) : Prop where
  lj : LJ w0 p g q v J D W
  res : Boxed W w.heap.size 4 (.bool false)
  want : Boxed W xw 30 vw
  row : W.ownsRow w0.heap.size 9 1 vw wl.length (wl.map Value.string)
  below : Below w.heap.size w W
  ord : w.heap.size < w0.heap.size ∧ w0.heap.size ≤ xw
  nx : ¬ JOwn q p g v xw
  nw : ∀ x, vw.ownBlock = some x → x ≠ xw ∧ ¬ JOwn q p g v x
section
variable {w w0 : World} {xw p g q : Nat} {v : Value} {J : JS} {D : DS} {vw : Value} {wl : List ByteArray} {W W' : World}
theorem MS.turnJ (h : MS w w0 xw p g q v J D vw wl W) {v' : Value} {J' : JS} {D' : DS} (hj : LJ w0 p g q v' J' D' W') (hc : Ch (JOwn q p g v) W W') (hv : v'.ownBlock = v.ownBlock ∨ ∀ x, v'.ownBlock = some x → W.heap.size ≤ x) : MS w w0 xw p g q v' J' D' vw wl W' := by
  have hxl := h.want.lt
  have hno : ∀ i, i < W.heap.size → ¬ JOwn q p g v i → ¬ JOwn q p g v' i := by
    rintro i hi hn (e | e | e | e)
    · exact hn (.inl e)
    · exact hn (.inr (.inl e))
    · exact hn (.inr (.inr (.inl e)))
    · rcases hv with hv | hv
      · exact hn (.inr (.inr (.inr (hv.symm.trans e))))
      · have := hv i e; omega
  have hw : ∀ i, JOwn q p g v i → w0.heap.size ≤ i := h.lj.own
  have ho := h.ord
  refine ⟨hj, Boxed_ch h.res hc (fun e => by have := hw _ e; omega), Boxed_ch h.want hc h.nx, own_ch' h.row hc (fun x hx => (h.nw x hx).2), hc.below h.below (Nat.le_refl _) (fun i hi => by have := hw i hi; omega), h.ord, hno _ hxl h.nx, fun x hx => ⟨(h.nw x hx).1, hno x (h.row.lt x hx).2 (h.nw x hx).2⟩⟩
theorem MS.step (h : MS w w0 xw p g q v J D vw wl W) (hb : Below W.heap.size W W') : MS w w0 xw p g q v J D vw wl W' :=
  h.turnJ (h.lj.step hb) (Ch.of_new hb) (.inl rfl)
/-- Another journal is opened on the disk. -/
theorem MS.newJ (h : MS w w0 xw p g q v J D vw wl W) {q' : Nat} {v' : Value} {J' : JS} (hj : LJ w0 p g q' v' J' D W') (hb : Below W.heap.size W W') (h1 : W.heap.size ≤ q') (h2 : ∀ x, v'.ownBlock = some x → W.heap.size ≤ x) : MS w w0 xw p g q' v' J' D vw wl W' := by
  have hs := h.step hb
  have hno : ∀ i, i < W.heap.size → ¬ JOwn q p g v i → ¬ JOwn q' p g v' i := by
    rintro i hi hn (e | e | e | e)
    · omega
    · exact hn (.inr (.inl e))
    · exact hn (.inr (.inr (.inl e)))
    · have := h2 i e; omega
  exact ⟨hj, hs.res, hs.want, hs.row, hs.below, hs.ord, hno _ h.want.lt h.nx, fun x hx => ⟨(h.nw x hx).1, hno x (h.row.lt x hx).2 (h.nw x hx).2⟩⟩
theorem MS.cells (h : MS w w0 xw p g q v J D vw wl W) : W.cell? ⟨xw, 0, none⟩ = some vw ∧ W.frozen? ⟨xw, 0, none⟩ = false ∧ W.cell? ⟨w.heap.size, 0, none⟩ = some (.bool false) ∧ W.frozen? ⟨w.heap.size, 0, none⟩ = false := ⟨h.want.cell, h.want.frozen, h.res.cell, h.res.frozen⟩
/-- A text is appended to what is wanted. -/
theorem MS.app (h : MS w w0 xw p g q v J D vw wl W) {W1 W5 : World} {v1 : Value} {s : ByteArray} (hb : Below W.heap.size W W1) (hg : W1.grownBy W5 vw.ownBlock)
    (hown : W5.ownsRow w0.heap.size 9 1 v1 (wl.length + 1) (wl.map Value.string ++ [.string s])) (hat : v1.ownBlock = vw.ownBlock ∨ v1.ownBlock = some W1.heap.size) :
    MS w w0 xw p g q v J D v1 (wl ++ [s]) (W5.setCell ⟨xw, 0, none⟩ v1) := by
  have hc : Ch (fun i => vw.ownBlock = some i) W W5 := (Ch.of_new hb).trans (grown_ch hg)
  have hc2 : Ch (fun i => vw.ownBlock = some i ∨ i = xw) W (W5.setCell ⟨xw, 0, none⟩ v1) := (hc.mono fun i _ e => .inl e).set ⟨xw, 0, none⟩ (.inr rfl) v1
  have hxl := h.want.lt
  have hs := hb.size
  have ho := h.ord
  have hnj : ∀ i, JOwn q p g v i → ¬ (vw.ownBlock = some i ∨ i = xw) := by
    rintro i hi (e | e)
    · exact (h.nw i e).2 hi
    · exact h.nx (e ▸ hi)
  have hv1 : ∀ x, v1.ownBlock = some x → x ≠ xw ∧ ¬ JOwn q p g v x := fun x hx => by
    rcases hat with e | e
    · exact h.nw x (e.symm.trans hx)
    · rw [e] at hx
      cases hx
      exact ⟨by omega, fun hj => by have := h.lj.jd.own _ hj; omega⟩
  refine ⟨⟨h.lj.jd.ch hc2 (hnj q (.inl rfl)) (hnj p (.inr (.inl rfl))) (hnj g (.inr (.inr (.inl rfl)))) (fun x hx => hnj x (.inr (.inr (.inr hx)))), hc2.below h.lj.below (Nat.le_refl _) ?_⟩, Boxed_ch h.res hc2 ?_, ?_, ?_, hc2.below h.below (Nat.le_refl _) ?_, h.ord, h.nx, hv1⟩
  · rintro i (e | e)
    · exact (h.row.lt i e).1
    · omega
  · rintro (e | e)
    · have := (h.row.lt _ e).1; omega
    · omega
  · exact (Boxed_ch h.want hc (fun e => (h.nw _ e).1 rfl)).set v1
  · have : W5.ownsRow w0.heap.size 9 1 v1 (wl ++ [s]).length ((wl ++ [s]).map Value.string) := by simpa using hown
    exact ownsRow_setCell_other this (fun e => (hv1 xw e).1 rfl) _
  · rintro i (e | e)
    · have := (h.row.lt i e).1; omega
    · omega
end
theorem end_q {w0 : World} {p g q : Nat} {v : Value} {J : JS} {D : DS} {W : World} (h : LJ w0 p g q v J D W) {z : Int} (hz : (J.e : Int) = z) (n : Nat) : Calls Try.prog 15 #[.pointer (some ⟨q, 0, none⟩)] (W.drewN n) fun e w' => e = .returned (.int .i64 z) ∧ ∃ m, w' = W.drewN m :=
  Calls.quiet_of ((end_call (h.step (Drawn0.below ⟨⟨n, rfl⟩⟩)).jd.jour).mono fun e w' k => ⟨by rw [← hz]; exact k.1, k.2.out⟩)
theorem len_q {w0 : World} {p g q : Nat} {v : Value} {J : JS} {D : DS} {W : World} (h : LJ w0 p g q v J D W) {z : Int} (hz : (J.l.length : Int) = z) (n : Nat) : Calls Try.prog 14 #[.pointer (some ⟨q, 0, none⟩)] (W.drewN n) fun e w' => e = .returned (.int .i64 z) ∧ ∃ m, w' = W.drewN m :=
  Calls.quiet_of ((len_call (h.step (Drawn0.below ⟨⟨n, rfl⟩⟩)).jd.jour).mono fun e w' k => ⟨by rw [← hz]; exact k.1, k.2.out⟩)
end Go.Proofs.Ytpnnnhdhmdildaa.Given
end
section
/- A walk of a journal's texts, for the laws. -/
set_option linter.unusedVariables false
set_option linter.unusedSimpArgs false
namespace Go.Proofs.Ytpnnnhdhmdildaa.Given
open Go.RowKit Go.Proofs.YtpnnnhdhmdildaaW.PrintWords Go.Proofs.Ytpnnnhdhmdildaa.J Go.Proofs.Ytpnnnhdhmdildaa.RF
/-- The blocks from B on, below N, are kept. -/
def KV (B N : Nat) (A C : World) : Prop := ∀ g, B ≤ g → g < N → KeepB g A C
theorem KV.refl (B N : Nat) (A : World) : KV B N A A := fun _ _ _ _ h => h
theorem KV.trans {B N : Nat} {A C E : World} (h : KV B N A C) (k : KV B N C E) : KV B N A E := fun g h1 h2 => (h g h1 h2).trans (k g h1 h2)
theorem KV.put {B N : Nat} (W : World) (l : Nat) (o : Obj) (hl : N ≤ l) : KV B N W (W.putObj l o) := fun g _ h2 => KeepB.put W l o h2 hl
theorem KV.set {B N : Nat} (W : World) (x k : Nat) (v : Value) (hx : x < B) : KV B N W (W.setCell ⟨x, k, none⟩ v) := fun g h1 _ o ho => (Below.heap_setCell _ _ _ _ (by show g ≠ x; omega)).trans ho
theorem yields_mono {F : Fence} {n : Nat} {P : Program} {α : Type} {g : Nat} {lb : Array Value} {own : Nat → Prop} {encs : α → Array Value} {K K' : World → World → Prop} {xs : List α} {w : World} (h : RF.Yields F n P g lb own encs K xs w) (hK : ∀ A B, K' A B → K A B) : RF.Yields F n P g lb own encs K' xs w := by
  intro l J Jx W hW hJ hJx hY h0
  refine h l J Jx W hW hJ hJx (fun pre x W1 hp hj => ?_) h0
  obtain ⟨fn, tmps, assign, body, hy, hR⟩ := hY pre x W1 hp hj
  refine ⟨fn, tmps, assign, body, hy, hR.mono ?_⟩
  rintro e W' (⟨h1, h2, h3⟩ | h)
  · exact .inl ⟨h1, h2, hK _ _ h3⟩
  · exact .inr h
theorem vat_yields {F : Fence} {n : Nat} (h37 : F.fn 37) (hro : F.round = none) (hn : 1 ≤ n) {B s : Nat} {l : List ByteArray} {W : World} (h : VAt B s l W) (hlen : l.length ≤ 2000) :
    RF.Yields F n Try.prog 37 #[.pointer (some ⟨s, 0, none⟩)] (fun _ => False) (fun x : ByteArray => #[Value.string x]) (KV B W.heap.size) (upto (fun j => l.getD j ⟨#[]⟩) l.length) W := by
  obtain ⟨h1, h2, ⟨rfl, h3⟩ | ⟨g, hg⟩⟩ := h
  · exact val_nil h37 hro h2 h3
  · exact yields_mono (val_yields h37 hro hn hg hlen) (fun A C hK => hK g hg.bg hg.lg)
theorem MS.turn {w w0 : World} {xw p g q : Nat} {v : Value} {J : JS} {D : DS} {vw : Value} {wl : List ByteArray} {W W' : World} {B : Nat} (h : MS w w0 xw p g q v J D vw wl W) (hB : w0.heap.size ≤ B) (ht : Turn (fun _ => False) B W W') : MS w w0 xw p g q v J D vw wl W' := by
  have hc := turn_ch ht
  have ho := h.ord
  exact ⟨⟨h.lj.jd.turn ht, hc.below h.lj.below (Nat.le_refl _) (fun i hi => by have := hi.1; omega)⟩, boxed_turn h.res ht, boxed_turn h.want ht, own_ch' h.row hc (fun x hx => cells_not (row_cells h.row hx)), hc.below h.below (Nat.le_refl _) (fun i hi => by have := hi.1; omega), h.ord, h.nx, h.nw⟩
/-- A cell of the law's own is set. -/
theorem MS.other {w w0 : World} {xw p g q : Nat} {v : Value} {J : JS} {D : DS} {vw : Value} {wl : List ByteArray} {W : World} (h : MS w w0 xw p g q v J D vw wl W) {x : Nat} (u : Value) (h0 : w0.heap.size ≤ x) (h1 : x ≠ xw) (h2 : ¬ JOwn q p g v x) (h3 : vw.ownBlock ≠ some x) : MS w w0 xw p g q v J D vw wl (W.setCell ⟨x, 0, none⟩ u) := by
  have hc : Ch (fun i => i = x) W (W.setCell ⟨x, 0, none⟩ u) := (Ch.refl (fun i => i = x) W).set ⟨x, 0, none⟩ rfl u
  have ho := h.ord
  exact ⟨⟨h.lj.jd.ch hc (fun e => h2 (.inl e.symm)) (fun e => h2 (.inr (.inl e.symm))) (fun e => h2 (.inr (.inr (.inl e.symm)))) (fun y hy e => h2 (.inr (.inr (.inr (e ▸ hy))))), hc.below h.lj.below (Nat.le_refl _) (by omega)⟩, Boxed_ch h.res hc (by omega), Boxed_ch h.want hc (fun e => h1 e.symm), own_ch' h.row hc (fun y hy e => h3 (e ▸ hy)), hc.below h.below (Nat.le_refl _) (by omega), h.ord, h.nx, h.nw⟩
theorem MS.far {w w0 : World} {xw p g q : Nat} {v : Value} {J : JS} {D : DS} {vw : Value} {wl : List ByteArray} {W : World} (h : MS w w0 xw p g q v J D vw wl W) {x : Nat} (hx : W.heap.size ≤ x) : w0.heap.size ≤ x ∧ x ≠ xw ∧ ¬ JOwn q p g v x ∧ vw.ownBlock ≠ some x :=
  ⟨by have := h.lj.below.size; omega, by have := h.want.lt; omega, fun hj => by have := h.lj.jd.own _ hj; omega, fun e => by have := (h.row.lt x e).2; omega⟩
theorem MS.rowcell {w w0 : World} {xw p g q : Nat} {v : Value} {J : JS} {D : DS} {gw n cap : Nat} {wl : List ByteArray} {W : World} (h : MS w w0 xw p g q v J D (.slice (some ⟨gw, 0, none⟩) n cap) wl W) {i : Nat} (hi : i < wl.length) : W.cell? ⟨gw, i, none⟩ = some (.string (wl.getD i ⟨#[]⟩)) :=
  PRow.cell ⟨h.row, h.lj.below.size⟩ hi
/-- In the walk of a journal's texts: two numbers beside. -/
structure RS (w w0 : World) (xw p g q : Nat) (v : Value) (J : JS) (D : DS) (vw : Value) (wl : List ByteArray) (xc : Nat) (c k : Int) (W : World) : Prop where
  ms : MS w w0 xw p g q v J D vw wl W
  bc : Boxed W xc 3 (.int .i64 c)
  bi : Boxed W (xc + 1) 3 (.int .i64 k)
section
variable {w w0 : World} {xw p g q : Nat} {v : Value} {J : JS} {D : DS} {vw : Value} {wl : List ByteArray} {xc : Nat} {c k : Int} {W W' : World}
theorem RS.step (h : RS w w0 xw p g q v J D vw wl xc c k W) (hb : Below W.heap.size W W') : RS w w0 xw p g q v J D vw wl xc c k W' := ⟨h.ms.step hb, Boxed_ch (S := fun _ => False) h.bc (Ch.of_new hb) id, Boxed_ch (S := fun _ => False) h.bi (Ch.of_new hb) id⟩
theorem RS.turn {B : Nat} (h : RS w w0 xw p g q v J D vw wl xc c k W) (hB : w0.heap.size ≤ B) (ht : Turn (fun _ => False) B W W') : RS w w0 xw p g q v J D vw wl xc c k W' := ⟨h.ms.turn hB ht, boxed_turn h.bc ht, boxed_turn h.bi ht⟩
theorem RS.next (h : RS w w0 xw p g q v J D vw wl xc c k W) (hf : w0.heap.size ≤ xc + 1 ∧ xc + 1 ≠ xw ∧ ¬ JOwn q p g v (xc + 1) ∧ vw.ownBlock ≠ some (xc + 1)) (k' : Int) : RS w w0 xw p g q v J D vw wl xc c k' (W.setCell ⟨xc + 1, 0, none⟩ (.int .i64 k')) :=
  ⟨h.ms.other _ hf.1 hf.2.1 hf.2.2.1 hf.2.2.2, Boxed_ch h.bc ((Ch.refl (fun i => i = xc + 1) W).set ⟨xc + 1, 0, none⟩ rfl _) (by omega), h.bi.set _⟩
theorem RS.cells (h : RS w w0 xw p g q v J D vw wl xc c k W) : W.cell? ⟨xc, 0, none⟩ = some (.int .i64 c) ∧ W.cell? ⟨xc + 1, 0, none⟩ = some (.int .i64 k) ∧ W.frozen? ⟨xc + 1, 0, none⟩ = false ∧ W.cell? ⟨xw, 0, none⟩ = some vw ∧ W.cell? ⟨w.heap.size, 0, none⟩ = some (.bool false) ∧ W.frozen? ⟨w.heap.size, 0, none⟩ = false :=
  ⟨h.bc.cell, h.bi.cell, h.bi.frozen, h.ms.want.cell, h.ms.res.cell, h.ms.res.frozen⟩
theorem RS.start {w9 : World} (h : MS w w0 xw p g q v J D vw wl w9) : RS w w0 xw p g q v J D vw wl w9.heap.size c k ((w9.alloc (.cells #[.int .i64 c] 3)).alloc (.cells #[.int .i64 k] 3)) := by
  have b2 := Boxed.new (w9.alloc (.cells #[.int .i64 c] 3)) 3 (.int .i64 k)
  rw [World.size_alloc] at b2
  exact ⟨(h.step ((Below.refl _ w9).alloc (Nat.le_refl _) _)).step ((Below.refl _ _).alloc (Nat.le_refl _) _), (Boxed.new w9 3 _).alloc _, b2⟩
end
/-- At the end: with the mark of the walk. -/
structure RE (w w0 : World) (xw p g q : Nat) (v : Value) (J : JS) (D : DS) (vw : Value) (wl : List ByteArray) (xc : Nat) (c k : Int) (Dd : Nat) (W : World) : Prop where
  st : RS w w0 xw p g q v J D vw wl xc c k W
  mark : W.heap[Dd]? = some (.deferred (some []))
theorem RE.step {w w0 : World} {xw p g q : Nat} {v : Value} {J : JS} {D : DS} {vw : Value} {wl : List ByteArray} {xc : Nat} {c k : Int} {Dd : Nat} {W W' : World} (h : RE w w0 xw p g q v J D vw wl xc c k Dd W) (hb : Below W.heap.size W W') : RE w w0 xw p g q v J D vw wl xc c k Dd W' :=
  ⟨h.st.step hb, (hb.block Dd (Array.getElem?_eq_some_iff.1 h.mark).1).trans h.mark⟩
end Go.Proofs.Ytpnnnhdhmdildaa.Given
end
