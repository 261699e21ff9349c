/- All sectors, in order, as many as are asked for; cut short no more are asked; two walks, one within the other. For every input. No condition. -/
import Derived.Test.YticpeniaplhpmaaWSt
set_option linter.unusedVariables false
set_option linter.unusedSimpArgs false
namespace Go.Proofs.Yticpeniaplhpmaa.Given
open Go.RowKit Go.Proofs.YticpeniaplhpmaaW.PrintWords Go.Proofs.Yticpeniaplhpmaa.RF
attribute [local go_sem] Oper.semAt_some
theorem conv2 (c d : Int) (W : World) : (convert 30 9 (.slice (some ⟨W.heap.size, 0, none⟩) 2 2)).run Try.prog (W.alloc (.cells #[.int .u8 c, .int .u8 d] 5)) =
    .ok (.string (strOfNums [c, d])) (W.alloc (.cells #[.int .u8 c, .int .u8 d] 5)) := by
  refine run_convert_bytes_arg _ 30 5 Try.underlying30 Try.underlying5 W.heap.size 0 2 2 [c, d] (by simp) (fun i hi => ?_) 9 Try.underlying9
  rw [Lib.cell_of_heap (World.alloc_heap_new W _), Nat.zero_add]
  rcases (by omega : i = 0 ∨ i = 1) with rfl | rfl <;> rfl
theorem write_len (D : DS) (i : Int) (data : ByteArray) : (D.write i data).2.secs.length = D.secs.length := by
  unfold DS.write
  split
  · split <;> simp
  · rfl
theorem write_left (D : DS) (i : Int) (data : ByteArray) : D.left - 1 ≤ (D.write i data).2.left := by
  unfold DS.write
  split
  · split
    · show D.left - 1 ≤ D.left; omega
    · show D.left - 1 ≤ D.left - 1; omega
  · show D.left - 1 ≤ D.left; omega
/-- Ahead of the walks. -/
structure W1 (w : World) (p g : Nat) (D : DS) (xd : Nat) (W : World) : Prop where
  res : Boxed W w.heap.size 4 (.bool false)
  d : Boxed W xd 22 (.pointer (some ⟨p, 0, none⟩))
  disk : DiskAt w.heap.size p g D W
  below : Below w.heap.size w W
theorem W1.step {w : World} {p g : Nat} {D : DS} {xd : Nat} {W W' : World} (h : W1 w p g D xd W) (hb : Below W.heap.size W W') : W1 w p g D xd W' :=
  ⟨Boxed_ch h.res (S := fun _ => False) (Ch.of_new hb) id, Boxed_ch h.d (S := fun _ => False) (Ch.of_new hb) id, h.disk.ch (S := fun _ => False) (Ch.of_new hb) id id, h.below.trans (hb.mono h.below.size)⟩
theorem W1.ch {w : World} {p g : Nat} {D D' : DS} {xd : Nat} {W W' : World} (h : W1 w p g D xd W) (o : w.heap.size < p ∧ w.heap.size < g ∧ p < xd ∧ g < xd) (hd : DiskAt w.heap.size p g D' W') (hc : Ch (Own p g) W W') : W1 w p g D' xd W' :=
  ⟨Boxed_ch h.res hc (by rintro (h | h) <;> omega), Boxed_ch h.d hc (by rintro (h | h) <;> omega), hd, hc.below h.below (Nat.le_refl _) (by rintro i (h | h) <;> omega)⟩
theorem w1_write {w : World} {p g : Nat} {D D' : DS} {xd : Nat} {W : World} {r : Bool} {i : Int} {data : ByteArray} (h : W1 w p g D xd W) (o : w.heap.size < p ∧ w.heap.size < g ∧ p < xd ∧ g < xd) (hD : D.Ok) (h0 : -9223372036854775808 ≤ i) (h1 : i ≤ 9223372036854775807) (hs : data.size ≤ 9223372036854775807) (hr : D.write i data = (r, D')) :
    Calls Try.prog 9 #[.pointer (some ⟨p, 0, none⟩), .int .i64 i, .string data] W fun e W' => e = .returned (.bool r) ∧ W1 w p g D' xd W' :=
  (write_call h.disk hD i data (wfn h0 h1) hs).mono fun e W' q => by rw [hr] at q; exact ⟨q.1, h.ch o q.2.1 q.2.2⟩
set_option maxHeartbeats 1000000 in
set_option maxRecDepth 100000 in
theorem walks_walk (n most c : Int) (w : World) (hn : (Lit.int .i64 n).wf = true) (hm : (Lit.int .i64 most).wf = true) (hc : (Lit.int .u8 c).wf = true) :
    Calls Try.prog 6 #[.int .i64 n, .int .i64 most, .int .u8 c] w fun e w' => e = .returned (.bool true) ∧ Below w.heap.size w w' := by
  refine (callsIn_wide (n := 9)).1 ?_
  refine callsIn_of_wp_marks Try.func6 rfl trivial ?_ rfl
  simp only [Try.ntmps6, List.size_toArray, List.length_cons, List.length_nil, Nat.reduceAdd, Nat.reduceSub, Array.replicate_succ, Array.replicate_zero, List.push_toArray, List.append_toArray, List.nil_append, List.cons_append]
  refine wpIn_wide.2 ?_
  go_wp2_with (first
    | (go_at_call 13; refine (within_call n 1 9 _ (by omega) (by omega) (by omega)).mono ?_; rintro e wx ⟨kk, rfl, k0, k1, dx⟩; obtain ⟨k, rfl⟩ : ∃ k : Nat, kk = k := ⟨kk.toNat, by omega⟩)
    | (go_at_call 7; refine (new_call (k : Int) k _ (by omega)).mono ?_; rintro e wy ⟨p, g, rfl, hd, hb⟩))
  have ex := dx.below
  have sx : w.heap.size + 1 ≤ wx.heap.size := by have := ex.size; rwa [World.size_alloc] at this
  have l1 := hd.1
  obtain ⟨l2, l3, l4, _⟩ := hd.g
  have Bx : Boxed wx w.heap.size 4 (.bool false) := Boxed_ch (S := fun _ => False) (Boxed.new w 4 (.bool false)) (Ch.of_new ex) id
  have BB : Below w.heap.size w wx := ((Below.refl _ w).alloc (Nat.le_refl _) _).trans (ex.mono (by simp))
  have hd' : DiskAt w.heap.size p g (newD k) wy := by obtain ⟨_, cap_, h1_, h2_⟩ := hd; exact ⟨by omega, cap_, h1_, own_mono h2_ (by omega)⟩
  have H1 : W1 w p g (newD k) wy.heap.size (wy.alloc (.cells #[.pointer (some ⟨p, 0, none⟩)] 22)) :=
    ⟨(Boxed_ch (S := fun _ => False) Bx (Ch.of_new hb) id).alloc _, Boxed.new wy 22 _, hd'.ch (S := fun _ => False) (Ch.of_new ((Below.refl _ wy).alloc (Nat.le_refl _) _)) id id, (BB.trans (hb.mono (by omega))).alloc (by have := hb.size; omega) _⟩
  have HO : w.heap.size < p ∧ w.heap.size < g ∧ p < wy.heap.size ∧ g < wy.heap.size := by omega
  obtain ⟨xd, hxd⟩ : ∃ x, wy.heap.size = x := ⟨_, rfl⟩
  rw [hxd] at H1 HO ⊢
  have H1 := Aside0.mk H1
  have HO := Aside0.mk HO
  have kk : 1 ≤ k ∧ k ≤ 9 := by omega
  have hN := newD_ok k kk.1 (by omega)
  have hl : (newD k).secs.length = k := by simp [newD]
  have hleft : (newD k).left = 0 := rfl
  generalize newD k = D0 at H1 hN hl hleft
  clear ex sx l1 l2 l3 l4 Bx BB hd' hxd hd hb dx
  generalize wy.alloc (.cells #[.pointer (some ⟨p, 0, none⟩)] 22) = wz at H1 ⊢
  have cv := conv2 c
  go_loopw [9, 28] (fun v9 v28 wr => ∃ (i : Nat) (D : DS), v28 = .int .i64 (i : Int) ∧ i ≤ k ∧ D.Ok ∧ D.secs.length = k ∧ -(i : Int) ≤ D.left ∧ Aside0 (W1 w p g D xd wr)) (fun _ v _ => k - (intOf v).toNat)
  case atStart => exact ⟨0, D0, rfl, by omega, hN, hl, by omega, H1⟩
  case round =>
    clear H1 hN hl hleft
    obtain ⟨i, D, rfl, hi, hD, hl, hleft, HA⟩ := hrel
    have cd := HA.out.d.cell
    by_cases hlt : i < k
    · have hu : IntKind.u8.wrap (i : Int) = (i : Int) := IntWalk.u8_in _ (by omega)
      have cv' := cv (i : Int)
      clear cv
      have ss : (strOfNums [c, (i : Int)]).size = 2 := by rw [nums_len]; rfl
      generalize strOfNums [c, (i : Int)] = st at cv' ss
      have HZ := Aside0.mk (HA.out.step ((Below.refl _ wr).alloc (Nat.le_refl _) (.cells #[.int .u8 c, .int .u8 (i : Int)] 5)))
      have w1 := write_ok hD (by omega) (i : Int) st
      have w2 := write_len D (i : Int) st
      have w3 := write_left D (i : Int) st
      obtain ⟨⟨r, D'⟩, hr⟩ : ∃ x, D.write (i : Int) st = x := ⟨_, rfl⟩
      rw [hr] at w1 w2 w3
      dsimp only at w1 w2 w3
      have HR := Aside0.mk hr
      have OK := Aside0.mk w1
      clear hr w1
      go_wp2_with (go_at_call 9; (with_reducible refine (w1_write HZ.out HO.out hD (by omega) (by omega) (by omega) HR.out).mono ?_); rintro e w2 ⟨rfl, h1⟩; have HB := Aside0.mk h1; clear h1)
      go_roundw
      case rel => exact ⟨i + 1, _, by go_num, by omega, OK.out, by omega, by omega, HB⟩
      case measure => simp [intOf]; omega
    · obtain rfl : k = i := by omega
      clear cv hlt
      clear hleft hi D0 wz wx hn hm hc
      go_wp2_with (first
        | (go_at_call 13; refine (within_call most 1 10 _ (by omega) (by omega) (by omega)).mono ?_; rintro e wm ⟨m, rfl, m0, m1, dm⟩; have HB := Aside0.mk (HA.out.step dm.below); clear dm HA cd; have bw := Aside0.mk ((((Below.refl wm.heap.size wm).alloc (Nat.le_refl _) (.cells #[.int .i64 m] 3)).alloc (by simp) (.cells #[.int .i64 0] 3)).alloc (by simp; omega) (.cells #[.int .i64 0] 3)); have HC := Aside0.mk (HB.out.step bw.out); have cd := HC.out.d.cell)
        | (go_at_call 18; refine (all_call HC.out.disk hD).mono ?_; rintro e wa ⟨s, g', rfl, hit, ba⟩))
      have g0 : Boxed (((wm.alloc (.cells #[.int .i64 m] 3)).alloc (.cells #[.int .i64 0] 3)).alloc (.cells #[.int .i64 0] 3)) wm.heap.size 3 (.int .i64 m) := ((Boxed.new wm 3 _).alloc _).alloc _
      have g1 : Boxed (((wm.alloc (.cells #[.int .i64 m] 3)).alloc (.cells #[.int .i64 0] 3)).alloc (.cells #[.int .i64 0] 3)) (wm.heap.size + 1) 3 (.int .i64 0) := by
        have := (Boxed.new (wm.alloc (.cells #[.int .i64 m] 3)) 3 (.int .i64 0)).alloc (.cells #[.int .i64 0] 3)
        rwa [World.size_alloc] at this
      have g2 : Boxed (((wm.alloc (.cells #[.int .i64 m] 3)).alloc (.cells #[.int .i64 0] 3)).alloc (.cells #[.int .i64 0] 3)) (wm.heap.size + 1 + 1) 3 (.int .i64 0) := by
        have := Boxed.new ((wm.alloc (.cells #[.int .i64 m] 3)).alloc (.cells #[.int .i64 0] 3)) 3 (.int .i64 0)
        rwa [World.size_alloc, World.size_alloc] at this
      have sz : (((wm.alloc (.cells #[.int .i64 m] 3)).alloc (.cells #[.int .i64 0] 3)).alloc (.cells #[.int .i64 0] 3)).heap.size = wm.heap.size + 3 := by simp
      have hx := HC.out
      have OR : Ord w.heap.size p g xd wm.heap.size (wm.heap.size + 1) (wm.heap.size + 1 + 1) := ⟨HO.out.1, HO.out.2.1, HO.out.2.2.1, HO.out.2.2.2, HB.out.d.lt, by omega, by omega⟩
      generalize ((wm.alloc (.cells #[.int .i64 m] 3)).alloc (.cells #[.int .i64 0] 3)).alloc (.cells #[.int .i64 0] 3) = wb at g0 g1 g2 sz hx ba hit bw HC cd ⊢
      obtain ⟨a, ha⟩ : ∃ a, wm.heap.size = a := ⟨_, rfl⟩
      rw [ha] at g0 g1 g2 sz OR ⊢
      have HS := Aside0.mk ((show WSt w p g D xd a (a + 1) (a + 1 + 1) m 0 0 wb from ⟨hx.res, hx.d, g0, g1, g2, hx.disk, hx.below⟩).step ba)
      have HIT := Aside0.mk hit
      have HOR := Aside0.mk OR
      clear hx ha g0 g1 g2 HB bw HC cd OR H1 hit
      refine (wpIn_wide (n := 9)).1 ?_
      refine range_own (n := 9) (encs := fun x : Nat × ByteArray => #[.int .i64 (x.1 : Int), .string x.2]) rfl (by omega) (gf := 25) (lb := #[.pointer (some ⟨s, 0, none⟩)]) rfl trivial (enters_of Try.func25 (by kernel_rfl) rfl)
        (all_yields (F := Fence.wide) (n := 9 - 1) trivial rfl (by omega) HIT.out (by omega)) (fun r hr => hr.elim) (fun h k => h.trans k) (fun W l o hl => KeepB.put W l o HIT.out.lg hl) (Below.refl _ _) (fun _ => rfl)
        (fun pre W => WSt w p g D xd a (a + 1) (a + 1 + 1) m (pre.length : Int) (tri pre.length : Int) W ∧ (pre.length : Int) < m)
        (fun c' pre W => c' = .exit 2 ∧ (pre.length : Int) = m ∧ WSt w p g D xd a (a + 1) (a + 1 + 1) m (pre.length : Int) (tri pre.length : Int) W)
        (fun _ X Y ht h => ⟨h.1.turn HS.out.below.size ht, h.2⟩) (fun _ _ X Y ht h => ⟨h.1, h.2.1, h.2.2.turn HS.out.below.size ht⟩) ⟨HS.out, by simp; omega⟩ ?round ?done ?stop
      case done =>
        intro Dd W hDd hI hK
        obtain ⟨q, hq⟩ : ∃ q, (secsOf D.secs).length = q := ⟨_, rfl⟩
        rw [hq] at hI
        have hqk : q = k := by rw [← hq, ← hl]; exact upto_length _ _
        obtain ⟨hf, hlm⟩ := hI
        have hmin : min m (k : Int) = (q : Int) := by omega
        have hq1 : 1 ≤ q ∧ q ≤ 9 := by omega
        clear hq hqk hlm
        have FIN := Aside0.mk (WEnd.mk hf hK)
        have t1 := tri_le q (by omega)
        have t2 := tri_two q (by omega)
        have HDl : Aside0 (w.heap.size < Dd) := ⟨by have := HS.out.res.lt; omega⟩
        obtain ⟨c1, c2, c3, c4, c5, c6, c9, c10⟩ := hf.cells
        have t3 := tri_wrap q (by omega)
        clear hf hK hD HIT HS hl kk k0 t2
        go_wp2_with (first
          | (go_at_call 7; (with_reducible refine (new_call (-5) 1 _ (by decide)).mono ?_); rintro e wp ⟨p1, g1, rfl, hd1, b1⟩; have FP := Aside0.mk (FIN.out.step b1); have HD1 := Aside0.mk hd1; clear hd1 b1 FIN c1 c2 c3 c4 c5 c6 c9 c10)
          | (go_at_call 7; (with_reducible refine (new_call 2009 2000 _ (by decide)).mono ?_); rintro e wq ⟨p2, g2, rfl, hd2, b2⟩; have FQ := Aside0.mk (FP.out.step b2); have HE1 := Aside0.mk (disk_step HD1.out b2); have HE2 := Aside0.mk hd2; obtain ⟨c1, c2, c3, c4, c5, c6, c9, c10⟩ := FQ.out.st.cells; clear b2 hd2 HD1 FP)
          | (go_at_call 12; (with_reducible refine (sc_new (v := 1) HE1.out (by simp [newD])).mono ?_); rintro e wu ⟨rfl, b3⟩; have FU := Aside0.mk (FQ.out.step b3); have HE3 := Aside0.mk (disk_step HE2.out b3); clear b3)
          | (go_at_call 12; (with_reducible refine (sc_new (v := 2000) HE3.out (by simp [newD])).mono ?_); rintro e wv ⟨rfl, b4⟩; have FV := Aside0.mk (FU.out.step b4); clear b4)
          | (go_at_call 3; (with_reducible refine (runs_walk _).mono ?_); rintro e wt ⟨rfl, b5⟩; have FT := Aside0.mk (FV.out.step b5); obtain ⟨_, _, _, _, _, _, c11, c12⟩ := FT.out.st.cells; clear b5))
        have st0 := FT.out.st.res.set (.bool true)
        have k0 : (wt.setCell ⟨w.heap.size, 0, none⟩ (.bool true)).heap[Dd]? = some (.deferred (some [])) := (Below.heap_setCell _ _ _ _ (Nat.ne_of_gt HDl.out)).trans FT.out.mark
        have bw := FT.out.st.below.setCell (p := ⟨w.heap.size, 0, none⟩) (Nat.le_refl _) (.bool true)
        generalize wt.setCell ⟨w.heap.size, 0, none⟩ (.bool true) = W9 at st0 k0 bw ⊢
        have e8 := (st0.kept (grownBy_putObj' W9 Dd (.deferred none)) (by simp; have := HDl.out; omega)).cell
        refine ⟨by simp, .inl ⟨_, _, rfl, run_takeDeferred k0, .bool true, by simp [results, Try.f6, go_sem, e8], rfl, ?_⟩⟩
        exact bw.grown (grownBy_putObj' _ Dd (.deferred none)) bw.size (fun k e => by cases e; exact Nat.le_of_lt HDl.out)
      case stop =>
        rintro Dd c' pre W hDd hp ⟨rfl, hm, hf⟩ hK
        have hple := hp.length_le
        rw [show (secsOf D.secs).length = D.secs.length from upto_length _ _] at hple
        obtain ⟨q, hq⟩ : ∃ q, pre.length = q := ⟨_, rfl⟩
        rw [hq] at hf hm hple
        have hmin : min m (k : Int) = (q : Int) := by omega
        have hq1 : 1 ≤ q ∧ q ≤ 9 := by omega
        clear hq hp hple hm
        refine wpIn_wide.2 ?_
        have FIN := Aside0.mk (WEnd.mk hf hK)
        have t1 := tri_le q (by omega)
        have t2 := tri_two q (by omega)
        have HDl : Aside0 (w.heap.size < Dd) := ⟨by have := HS.out.res.lt; omega⟩
        obtain ⟨c1, c2, c3, c4, c5, c6, c9, c10⟩ := hf.cells
        have t3 := tri_wrap q (by omega)
        clear hf hK hD HIT HS hl kk k0 t2
        go_wp2_with (first
          | (go_at_call 7; (with_reducible refine (new_call (-5) 1 _ (by decide)).mono ?_); rintro e wp ⟨p1, g1, rfl, hd1, b1⟩; have FP := Aside0.mk (FIN.out.step b1); have HD1 := Aside0.mk hd1; clear hd1 b1 FIN c1 c2 c3 c4 c5 c6 c9 c10)
          | (go_at_call 7; (with_reducible refine (new_call 2009 2000 _ (by decide)).mono ?_); rintro e wq ⟨p2, g2, rfl, hd2, b2⟩; have FQ := Aside0.mk (FP.out.step b2); have HE1 := Aside0.mk (disk_step HD1.out b2); have HE2 := Aside0.mk hd2; obtain ⟨c1, c2, c3, c4, c5, c6, c9, c10⟩ := FQ.out.st.cells; clear b2 hd2 HD1 FP)
          | (go_at_call 12; (with_reducible refine (sc_new (v := 1) HE1.out (by simp [newD])).mono ?_); rintro e wu ⟨rfl, b3⟩; have FU := Aside0.mk (FQ.out.step b3); have HE3 := Aside0.mk (disk_step HE2.out b3); clear b3)
          | (go_at_call 12; (with_reducible refine (sc_new (v := 2000) HE3.out (by simp [newD])).mono ?_); rintro e wv ⟨rfl, b4⟩; have FV := Aside0.mk (FU.out.step b4); clear b4)
          | (go_at_call 3; (with_reducible refine (runs_walk _).mono ?_); rintro e wt ⟨rfl, b5⟩; have FT := Aside0.mk (FV.out.step b5); obtain ⟨_, _, _, _, _, _, c11, c12⟩ := FT.out.st.cells; clear b5))
        have st0 := FT.out.st.res.set (.bool true)
        have k0 : (wt.setCell ⟨w.heap.size, 0, none⟩ (.bool true)).heap[Dd]? = some (.deferred (some [])) := (Below.heap_setCell _ _ _ _ (Nat.ne_of_gt HDl.out)).trans FT.out.mark
        have bw := FT.out.st.below.setCell (p := ⟨w.heap.size, 0, none⟩) (Nat.le_refl _) (.bool true)
        generalize wt.setCell ⟨w.heap.size, 0, none⟩ (.bool true) = W9 at st0 k0 bw ⊢
        have e8 := (st0.kept (grownBy_putObj' W9 Dd (.deferred none)) (by simp; have := HDl.out; omega)).cell
        refine ⟨by simp, .inl ⟨_, _, rfl, run_takeDeferred k0, .bool true, by simp [results, Try.f6, go_sem, e8], rfl, ?_⟩⟩
        exact bw.grown (grownBy_putObj' _ Dd (.deferred none)) bw.size (fun k e => by cases e; exact Nat.le_of_lt HDl.out)
      case round =>
        intro l pre x W hp hl hI
        obtain ⟨hx, hlt⟩ := upto_at hp
        obtain ⟨x1, x2⟩ := x
        unfold sec at hx
        obtain ⟨rfl, rfl⟩ := Prod.mk.inj hx
        obtain ⟨q, hq⟩ : ∃ q, pre.length = q := ⟨_, rfl⟩
        obtain ⟨y, hy⟩ : ∃ y, D.secs.getD q ⟨#[]⟩ = y := ⟨_, rfl⟩
        have hsn : (pre ++ [(pre.length, D.secs.getD pre.length ⟨#[]⟩)]).length = q + 1 := by simp [hq]
        generalize pre ++ [(pre.length, D.secs.getD pre.length ⟨#[]⟩)] = pre1 at hsn ⊢
        rw [hq] at hI hlt ⊢
        rw [hy]
        clear hp hx hq
        have hrd : D.read (q : Int) = (y, true) := by unfold DS.read; rw [if_pos ⟨by omega, by omega⟩, Int.toNat_natCast, hy]
        gi_wp2
        refine ⟨(KeepsOthers.alloc _ _).from _, KeepB.new ((Below.refl W.heap.size W).alloc (Nat.le_refl _) _), fun Wb ht hL => ?_⟩
        have hS := (hI.1.step ((Below.refl _ W).alloc (Nat.le_refl _) _)).turn HS.out.below.size ht
        have bI := boxed_turn (Boxed.new W 3 (.int .i64 (q : Int))) ht
        have q1 : decide (m ≤ (q : Int)) = false := decide_eq_false (by omega)
        obtain ⟨bx, hbx⟩ : ∃ b, W.heap.size = b := ⟨_, rfl⟩
        rw [hbx] at bI ⊢
        obtain ⟨r, hr⟩ := hL
        have hqm := hI.2
        have hbl : a + 1 + 1 < bx := by rw [← hbx]; exact hI.1.inn.lt
        clear hbx ht hI hy
        have hlg : a + 1 + 1 < g' := by have := HIT.out.bg; omega
        have HSB := Aside0.mk hS
        have RD := Aside0.mk hrd
        have KP := Aside0.mk (Kps.refl wa.heap.size g' Wb)
        obtain ⟨c1, c2, c3, c4, c5, c6, _, _⟩ := hS.cells
        have c7 := bI.cell
        have BI := Aside0.mk bI
        clear bI hS hrd KP
        have hbxl : a + 1 + 1 < bx := hbl
        gi_wp2_with (first
          | (refine And.intro trivial ?_; gi_at_call 10; refine (read_in HSB.out hD RD.out).mono ?_; rintro e wc ⟨rfl, bc⟩; have HSC := Aside0.mk (HSB.out.step bc); have BC := Aside0.mk (Boxed_ch BI.out (S := fun _ => False) (Ch.of_new bc) id); have HSD := Aside0.mk (HSC.out.setSeen HOR.out ((q : Int) + 1)); have KD := Aside0.mk ((Kps.new (B := wa.heap.size) (q := g') bc).trans (Kps.set wc (a + 1) (.int .i64 ((q : Int) + 1)) (by omega))); have BD := Aside0.mk (BC.out.other (B' := a + 1) (by omega) (.int .i64 ((q : Int) + 1))); obtain ⟨c1, c2, c3, c4, c5, c6, _, _⟩ := HSC.out.cells; have c7 := BC.out.cell; have c8 := HSD.out.d.cell; clear bc HSB BI)
          | (refine And.intro trivial ?_; gi_at_call 18; refine (all_in HSD.out hD).mono ?_; rintro e we ⟨s2, g2, rfl, hit2, be⟩; have HSE := Aside0.mk (HSD.out.step be); have KE := Aside0.mk (KD.out.trans (Kps.new be)); have BE := Aside0.mk (Boxed_ch BD.out (S := fun _ => False) (Ch.of_new be) id); have HIT2 := Aside0.mk hit2; clear be hit2))
        have hre := KE.out.from_.same l (.loop r) hl hr rfl
        have hsz2 := KE.out.from_.size
        have hwcs := HSD.out.inn.lt
        clear HSC HSD BC BD KD c1 c2 c3 c4 c5 c6 c7 c8
        refine range_own_in (F := Fence.wide.inRound l) (n := 9 - 1 - 1) (encs := fun x : Nat × ByteArray => #[.int .i64 (x.1 : Int), .string x.2]) (l₀ := l) (r₀ := r) rfl hre (by omega) (gf := 25) (lb := #[.pointer (some ⟨s2, 0, none⟩)]) rfl trivial (enters_of Try.func25 (by kernel_rfl) rfl)
          (RF.Yields.inRound l (all_yields (F := Fence.wide) (n := 9 - 1 - 1 - 1) trivial rfl (by omega) HIT2.out (by omega))) (fun r hr => hr.elim) (fun h k => h.trans k) (fun W l o hl => KeepB.put W l o HIT2.out.lg hl) (Below.refl _ _) (fun _ => rfl)
          (fun pre W' => (WSt w p g D xd a (a + 1) (a + 1 + 1) m ((q : Int) + 1) ((tri q + pre.length : Nat) : Int) W' ∧ Boxed W' bx 3 (.int .i64 (q : Int)) ∧ pre.length ≤ q + 1) ∧ Kps wa.heap.size g' Wb W')
          (fun c' pre W' => c' = .exit 4 ∧ WSt w p g D xd a (a + 1) (a + 1 + 1) m ((q : Int) + 1) ((tri (q + 1) : Nat) : Int) W' ∧ Kps wa.heap.size g' Wb W')
          (fun _ X Y ht h => ⟨⟨h.1.1.turn HSE.out.below.size ht, boxed_turn h.1.2.1 ht, h.1.2.2⟩, h.2.turn hsz2 ht⟩) (fun _ _ X Y ht h => ⟨h.1, h.2.1.turn HSE.out.below.size ht, h.2.2.turn hsz2 ht⟩) ⟨⟨HSE.out, BE.out, by simp⟩, KE.out⟩ ?round2 ?done2 ?stop2
        case done2 =>
          rintro W' ⟨⟨h1, h2, h3⟩, h4⟩
          have e0 : (secsOf D.secs).length = q + 1 := by
            have : (secsOf D.secs).length = D.secs.length := upto_length _ _
            omega
          rw [e0] at h1
          replace h1 : WSt w p g D xd a (a + 1) (a + 1 + 1) m ((q : Int) + 1) ((tri (q + 1) : Nat) : Int) W' := h1
          replace h2 := h4
          clear h4
          have FIN := Aside0.mk h1
          have KF := Aside0.mk h2
          obtain ⟨c1, c2, c3, c4, c5, c6, _, _⟩ := h1.cells
          clear h1 h2
          by_cases hqe : (q : Int) + 1 = m
          · have e1 : decide ((q : Int) + 1 = m) = true := decide_eq_true hqe
            gi_wp2
            exact ⟨KF.out.from_, rfl, by rw [hsn]; omega, by rw [hsn]; exact FIN.out⟩
          · have e1 : decide ((q : Int) + 1 = m) = false := decide_eq_false hqe
            gi_wp2
            exact ⟨KF.out.from_, KF.out.keep, by rw [hsn]; exact FIN.out, by rw [hsn]; omega⟩
        case stop2 =>
          rintro c' pre W' _ ⟨rfl, h1, h2⟩
          have FIN := Aside0.mk h1
          have KF := Aside0.mk h2
          obtain ⟨c1, c2, c3, c4, c5, c6, _, _⟩ := h1.cells
          clear h1 h2
          by_cases hqe : (q : Int) + 1 = m
          · have e1 : decide ((q : Int) + 1 = m) = true := decide_eq_true hqe
            gi_wp2
            exact ⟨KF.out.from_, rfl, by rw [hsn]; omega, by rw [hsn]; exact FIN.out⟩
          · have e1 : decide ((q : Int) + 1 = m) = false := decide_eq_false hqe
            gi_wp2
            exact ⟨KF.out.from_, KF.out.keep, by rw [hsn]; exact FIN.out, by rw [hsn]; omega⟩
        case round2 =>
          intro l2 pre2 x2 W2 hp2 hl2 hI2
          obtain ⟨hx2, hlt2⟩ := upto_at hp2
          obtain ⟨x3, x4⟩ := x2
          unfold sec at hx2
          obtain ⟨rfl, rfl⟩ := Prod.mk.inj hx2
          obtain ⟨j, hj⟩ : ∃ j, pre2.length = j := ⟨_, rfl⟩
          have hsn2 : (pre2 ++ [(pre2.length, D.secs.getD pre2.length ⟨#[]⟩)]).length = j + 1 := by simp [hj]
          generalize pre2 ++ [(pre2.length, D.secs.getD pre2.length ⟨#[]⟩)] = pre3 at hsn2 ⊢
          rw [hj] at hI2 hlt2 ⊢
          generalize D.secs.getD j ⟨#[]⟩ = y2
          clear hp2 hx2 hj
          gi_wp2
          refine ⟨KeepsFrom.refl _ _, fun _ ho => ho, fun Wc ht hL => ?_⟩
          have h1 := hI2.1.1.turn HSE.out.below.size ht
          have h2 := boxed_turn hI2.1.2.1 ht
          have h3 := hI2.1.2.2
          have h4 := hI2.2.turn hsz2 ht
          clear hI2 ht hL
          obtain ⟨c1, c2, c3, c4, c5, c6, _, _⟩ := h1.cells
          have c7 := h2.cell
          have S1 := Aside0.mk h1
          have S2 := Aside0.mk h2
          have S4 := Aside0.mk h4
          clear h1 h2 h4
          have hg2 := HIT2.out.bg
          by_cases hje : j = q + 1
          · have e1 : decide ((q : Int) < (j : Int)) = true := decide_eq_true (by omega)
            gi_wp2
            exact ⟨KeepsFrom.refl _ _, rfl, by have := S1.out; rw [hje] at this; exact this, S4.out⟩
          · have e1 : decide ((q : Int) < (j : Int)) = false := decide_eq_false (by omega)
            gi_wp2
            have ht45 := tri_le q (by omega)
            have wv : wrap64 ((tri q : Int) + (j : Int) + 1) = ((tri q + (j + 1) : Nat) : Int) := by rw [w64 (by omega) (by omega)]; omega
            rw [wv]
            clear wv
            exact ⟨(KeepsOthers.setCell _ _ _).from _, KeepB.set _ _ _ (by omega), ⟨by rw [hsn2]; exact S1.out.setInn HOR.out _, S2.out.other (by omega) _, by rw [hsn2]; omega⟩, S4.out.trans (Kps.set _ _ _ (by omega))⟩
end Go.Proofs.Yticpeniaplhpmaa.Given
