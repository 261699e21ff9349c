/- As many as there is room for, one behind the other; a walk cut short asks no more; the end is where they all end. For every input. No condition. -/
import Derived.Test.YtpnnnhdhmdildaaJnC
set_option linter.unusedVariables false
set_option linter.unusedSimpArgs false
namespace Go.Proofs.Ytpnnnhdhmdildaa.Given
open Go.RowKit Go.Proofs.YtpnnnhdhmdildaaW.PrintWords Go.Proofs.Ytpnnnhdhmdildaa.J Go.Proofs.Ytpnnnhdhmdildaa.RF
attribute [local go_sem] Oper.semAt_some
theorem ask_step {w W : World} (hb : Below w.heap.size w W) {x : Addr} {k : Nat} (h : AskAt w x k) : AskAt W x k := by
  obtain ⟨a, b, c, d, z, h1, h2, h3, h4, h5, c0, c1, c2, c3, c4⟩ := h
  exact ⟨a, b, c, d, z, h1, h2, h3, h4, h5, pw_cell_below hb c0, pw_cell_below hb c1, pw_cell_below hb c2, pw_cell_below hb c3, pw_cell_below hb c4⟩
/-- What the loop of commits keeps. -/
structure MI (k : Nat) (i : Nat) (J : JS) (D : DS) : Prop where
  good : Go.Proofs.Ytpnnnhdhmdildaa.J.Good D.secs J.l J.e
  ok : D.Ok
  armed : D.armed = false
  ddown : D.down = false
  jdown : J.down = false
  len : D.secs.length = k
  left : D.left = -(J.e : Int)
  few : J.l.length ≤ i
theorem MI.next {k i : Nat} {J : JS} {D : DS} (h : MI k i J D) (hk : k ≤ 25) (hi : i ≤ 12) (s : ByteArray) : ∃ z J' D', J.commit D s = (z, J', D') ∧ MI k (i + 1) J' D' ∧ ((J.e + np s ≤ k ∧ z = 0 ∧ J'.l = J.l ++ [s] ∧ J'.e = J.e + np s) ∨ (k < J.e + np s ∧ z = 6 ∧ J' = J ∧ D' = D)) := by
  have hle := h.good.le
  rw [h.len] at hle
  by_cases hf : J.e + np s ≤ k
  · obtain ⟨q, h1, h2, h3, h4⟩ := commit_ok h.good h.ok h.jdown h.ddown s (by rw [h.len]; exact hf) (.inl h.armed) (by rw [h.left]; omega)
    refine ⟨0, _, _, h1, ⟨h3, h4, h.armed, h.ddown, rfl, h2.trans h.len, ?_, ?_⟩, .inl ⟨hf, rfl, rfl, rfl⟩⟩
    · show D.left - (np s : Int) = -((J.e + np s : Nat) : Int)
      rw [h.left]; omega
    · show (J.l ++ [s]).length ≤ i + 1
      have := h.few
      simp; omega
  · exact ⟨6, J, D, commit_fulls h.jdown s (by rw [h.len]; omega), ⟨h.good, h.ok, h.armed, h.ddown, h.jdown, h.len, h.left, Nat.le_succ_of_le h.few⟩, .inr ⟨by omega, rfl, rfl, rfl⟩⟩
theorem MS.grown {w w0 : World} {xw p g q : Nat} {v : Value} {J : JS} {D : DS} {vw : Value} {wl : List ByteArray} {W W1 W5 : World} (h : MS w w0 xw p g q v J D vw wl W) (hb : Below W.heap.size W W1) (hg : W1.grownBy W5 vw.ownBlock) : W5.cell? ⟨xw, 0, none⟩ = some vw ∧ W5.frozen? ⟨xw, 0, none⟩ = false := by
  have hc : Ch (fun i => vw.ownBlock = some i) W W5 := (Ch.of_new hb).trans (grown_ch hg)
  have := Boxed_ch h.want hc (fun e => (h.nw _ e).1 rfl)
  exact ⟨this.cell, this.frozen⟩
set_option maxRecDepth 100000 in
set_option maxHeartbeats 4000000 in
theorem many_walk (a : Option Addr) (len cap : Nat) (n cut : Int) (w : World) (ha : AskRow w a len cap) (hn : (Lit.int .i64 n).wf = true) (hc : (Lit.int .i64 cut).wf = true) : Calls Try.prog 7 #[.slice a len cap, .int .i64 n, .int .i64 cut] w fun e w' => e = .returned (.bool true) ∧ Below w.heap.size w w' := by
  clear hn hc
  have HA0 := Aside0.mk ha
  clear ha
  refine (callsIn_wide (n := 9)).1 ?_
  refine callsIn_of_wp_marks Try.func7 rfl trivial ?_ rfl
  simp only [Try.ntmps7, List.size_toArray, List.length_cons, List.length_nil, Nat.reduceAdd, Nat.reduceSub, Array.replicate_succ, Array.replicate_zero, List.push_toArray, List.append_toArray, List.nil_append, List.cons_append]
  refine wpIn_wide.2 ?_
  go_wp2_with (first
    | (go_at_call 18; (with_reducible refine (within_call n 1 25 _ (by omega) (by omega) (by omega)).mono ?_); rintro e w0 ⟨kk, rfl, k0, k1, dx⟩; obtain ⟨k, rfl⟩ : ∃ k : Nat, kk = k := ⟨kk.toNat, by omega⟩)
    | (go_at_call 9; (with_reducible refine (new_l (k : Int) k _ (by omega)).mono ?_); rintro e w1 ⟨p, g, rfl, h⟩; have HB := Aside0.mk h; clear h)
    | (go_at_call 10; (with_reducible refine (open_l HB.out (newD_ok k (by omega) (by omega)) (newD_good k)).mono ?_); rintro e w2 ⟨q, v, rfl, h, _, _, _⟩; have HC := Aside0.mk h; clear h HB))
  have sx := dx.below.size
  rw [World.size_alloc] at sx
  have bx := HC.out.below
  have HM : Aside0 (MS w w0 w2.heap.size p g q v ⟨[], 0, false⟩ (newD k) (.slice none 0 0) [] (w2.alloc (.cells #[.slice none 0 0] 30))) := ⟨(by
    have r0 : Boxed w0 w.heap.size 4 (.bool false) := Boxed_ch (S := fun _ => False) (Boxed.new w 4 (.bool false)) (Ch.of_new dx.below) id
    have r2 : Boxed w2 w.heap.size 4 (.bool false) := Boxed_ch (S := fun _ => False) r0 (Ch.of_new HC.out.below) id
    have b2 : Below w.heap.size w w2 := (((Below.refl _ w).alloc (Nat.le_refl _) _).trans (dx.below.mono (by rw [World.size_alloc]; omega))).trans (bx.mono (by omega))
    exact ⟨HC.out.step ((Below.refl _ w2).alloc (Nat.le_refl _) _), r2.alloc _, Boxed.new w2 30 _, World.ownsRow_nil _ _ _ _, balloc _ b2 (Nat.le_refl _), ⟨by omega, bx.size⟩, fun hj => by have := HC.out.jd.own _ hj; omega, fun x hx => by simp [Value.ownBlock] at hx⟩)⟩
  have HI0 : Aside0 (MI k 0 ⟨[], 0, false⟩ (newD k)) := ⟨⟨newD_good k, newD_ok k (by omega) (by omega), rfl, rfl, rfl, by simp [newD], rfl, Nat.le_refl _⟩⟩
  have kk : 1 ≤ k ∧ k ≤ 25 := by omega
  obtain ⟨kk1, kk2⟩ := kk
  obtain ⟨xw, hxw⟩ : ∃ x, w2.heap.size = x := ⟨_, rfl⟩
  rw [hxw] at HM ⊢
  clear sx bx hxw HC dx k0 k1
  generalize w2.alloc (.cells #[.slice none 0 0] 30) = w3 at HM ⊢
  obtain ⟨i0, hi0, hz0, hz1, hz2⟩ : ∃ i0, Try.prog.info? 9 = some i0 ∧ i0.zero = some (.string ⟨#[]⟩) ∧ i0.size = 1 ∧ i0.bytes = 16 := by
    have h := info9
    cases hh : Try.prog.info? 9 with
    | none => rw [hh] at h; cases h
    | some i => rw [hh] at h; simp at h; exact ⟨i, rfl, h.1, h.2.1, h.2.2⟩
  have HIN := Aside0.mk hi0
  have HZ0 := Aside0.mk hz0
  have HZ1 := Aside0.mk hz1
  have HZ2 := Aside0.mk hz2
  clear hi0 hz0 hz1 hz2
  go_loopw [10, 12] (fun v10 v12 wr => ∃ (i : Nat) (J : JS) (D : DS) (v vw : Value), v10 = .int .i64 (J.e : Int) ∧ v12 = .int .i64 (i : Int) ∧ i ≤ 12 ∧ J.e ≤ k ∧ J.l.length ≤ i ∧ Aside0 (MI k i J D) ∧ Aside0 (MS w w0 xw p g q v J D vw J.l wr)) (fun _ v12 _ => 12 - (intOf v12).toNat)
  case atStart => exact ⟨0, _, _, v, _, rfl, rfl, by omega, by simp, by simp, HI0, HM⟩
  case round =>
    clear HM HI0
    obtain ⟨i, J, D, v, vw, rfl, rfl, hi, hje, hjl, HMI, HMS⟩ := hrel
    by_cases hlt : i < len ∧ i < 12
    · obtain ⟨h1, h2⟩ := hlt
      have h1i : (i : Int) < (len : Int) := by omega
      have h2i : (i : Int) < 12 := by omega
      obtain ⟨x, rfl, hc1, hc2, hat⟩ : ∃ x, a = some x ∧ len ≤ cap ∧ cap ≤ maxLen ∧ AskAt w x i := by
        rcases HA0.out with ⟨_, h, _⟩ | ⟨x, e, a1, a2, a3⟩
        · omega
        · exact ⟨x, e, a1, a2, a3 i h1⟩
      obtain ⟨fa, fb, fc, fd, fz, _, _, _, _, _, c0, c1, c2, c3, c4⟩ := ask_step HMS.out.below hat
      unfold maxLen at hc2
      have d0 : wr.cell? (x.add (i * 5)) = some (.int .i64 fa) := c0
      have d1 : wr.cell? ⟨(x.add (i * 5)).block, (x.add (i * 5)).off + 1, none⟩ = some (.int .i64 fb) := c1
      have d2 : wr.cell? ⟨(x.add (i * 5)).block, (x.add (i * 5)).off + 2, none⟩ = some (.int .i64 fc) := c2
      have d3 : wr.cell? ⟨(x.add (i * 5)).block, (x.add (i * 5)).off + 3, none⟩ = some (.int .i64 fd) := c3
      have d4 : wr.cell? ⟨(x.add (i * 5)).block, (x.add (i * 5)).off + 4, none⟩ = some (.int .u8 fz) := c4
      clear hat c0 c1 c2 c3 c4
      go_wp2_with (first
        | (go_at_call 17; (with_reducible refine (text_call _ _ _ _ _ _).mono ?_); rintro e w4 ⟨s, rfl, hs, hb⟩; have HM4 := Aside0.mk (HMS.out.step hb); clear hb HMS d0 d1 d2 d3 d4)
        | (go_at_call 16; (with_reducible refine (pieces_l s _ (by omega)).mono ?_); rintro e w5 ⟨a1, cap1, rfl, h⟩; have HM5 := Aside0.mk (HM4.out.step h.below); clear h HM4))
      obtain ⟨z, J', D', hcm, hmi, hcase⟩ := HMI.out.next kk2 hi s
      have hnp : np s ≤ 4 := by rw [np_eq s.size s (Nat.le_refl _)]; omega
      have bl : Aside0 (-4611686018427387904 + 2001 ≤ D.left) := ⟨by rw [HMI.out.left]; omega⟩
      have HCM := Aside0.mk hcm
      have HMI2 := Aside0.mk hmi
      obtain ⟨m, hm⟩ : ∃ m, np s = m := ⟨_, rfl⟩
      rw [hm] at hcase hnp ⊢
      clear hcm hmi hm
      rcases hcase with ⟨q1, rfl, hjl', hje'⟩ | ⟨q1, rfl, rfl, rfl⟩
      · have t1 : decide ((J.e : Int) + (m : Int) ≤ (k : Int)) = true := decide_eq_true (by omega)
        have hjl2 : J'.l.length ≤ i + 1 := HMI2.out.few
        have HJE : Aside0 ((J'.e : Int) = (J.e : Int) + (m : Int)) := ⟨by rw [hje']; omega⟩
        have HJL := Aside0.mk hjl'
        have HJL3 : Aside0 ((J'.l.length : Int) = (J.l.length : Int) + 1) := ⟨by rw [hjl']; simp⟩
        clear hjl' hje'
        go_wp2_with (first
          | (go_at_call 11; (with_reducible refine (commit_l HM5.out.lj HMI.out.ok bl.out (by omega) (by omega) s (by omega) HCM.out).mono ?_); rintro e w6 ⟨rfl, v', h, hch, hv⟩; have HM6 := Aside0.mk (HM5.out.turnJ h hch hv); obtain ⟨c1, f1, _, _⟩ := HM6.out.cells; clear h hch hv HM5; have hrow := HM6.out.row; have hbs := HM6.out.lj.below.size)
          | (at_builtin; refine wpList_append_own_at _ rfl _ _ 30 rfl w0.heap.size 9 i0 (.string ⟨#[]⟩) 1 16 Try.underlying30 HIN.out HZ0.out HZ1.out HZ2.out rfl (by decide) vw J.l.length _ rfl (hrow.alloc _) ⟨w6.heap.size, 0, none⟩ 1 1 [.string s] rfl rfl (cell_one_new _ _ _) (by intro u hu; simp at hu; subst hu; rfl) (by unfold maxLen; omega) (by omega) (by simp; omega) ?_; intro v1 w7 hown hgrow hnn hat; obtain ⟨a7, cap7, hv7⟩ := own_len hown; subst hv7; have HM7 := Aside0.mk (HM6.out.app ((Below.refl _ w6).alloc (Nat.le_refl _) _) hgrow hown hat); clear c1 f1; obtain ⟨c1, f1⟩ := HM6.out.grown ((Below.refl _ w6).alloc (Nat.le_refl _) _) hgrow; clear hown hgrow hat hnn hrow hbs))
        clear c1 f1 HM6
        generalize w7.setCell ⟨xw, 0, none⟩ (.slice a7 (J.l.length + 1) cap7) = w8 at HM7 ⊢
        obtain ⟨c1, _, _, _⟩ := HM7.out.cells
        go_quiet ((first | (go_at_call 15; exact end_q HM7.out.lj HJE.out _) | (go_at_call 14; exact len_q HM7.out.lj HJL3.out _)))
        have HM8 := Aside0.mk (HM7.out.step (Drawn0.below ⟨⟨nq, rfl⟩⟩))
        clear c1 HM7
        go_wp2
        go_roundw
        case rel => exact ⟨i + 1, J', D', v', _, by rw [HJE.out], by go_num, by omega, by have := HJE.out; omega, hjl2, HMI2, ⟨by rw [HJL.out]; exact HM8.out⟩⟩
        case measure => simp [intOf]; omega
      · have t1 : decide ((J'.e : Int) + (m : Int) ≤ (k : Int)) = false := decide_eq_false (by omega)
        obtain ⟨av, capv, rfl⟩ := own_len HM5.out.row
        go_wp2_with (go_at_call 11; (with_reducible refine (commit_l HM5.out.lj HMI.out.ok bl.out (by omega) (by omega) s (by omega) HCM.out).mono ?_); rintro e w6 ⟨rfl, v', h, hch, hv⟩; have HM6 := Aside0.mk (HM5.out.turnJ h hch hv); obtain ⟨c1, f1, _, _⟩ := HM6.out.cells; clear h hch hv HM5)
        go_quiet ((first | (go_at_call 15; exact end_q HM6.out.lj rfl _) | (go_at_call 14; exact len_q HM6.out.lj rfl _)))
        have HM8 := Aside0.mk (HM6.out.step (Drawn0.below ⟨⟨nq, rfl⟩⟩))
        clear c1 f1 HM6
        go_wp2
        go_roundw
        case rel => exact ⟨i + 1, J', D', v', _, rfl, by go_num, by omega, hje, by omega, HMI2, HM8⟩
        case measure => simp [intOf]; omega
    · rcases (by omega : ¬ i < len ∨ (i < len ∧ i = 12)) with h1 | ⟨h1, h2⟩
      all_goals
        have e1 : Aside0 (J.l.length ≤ 12) := ⟨by omega⟩
        go_wp2_with (first
          | (go_at_call 18; (with_reducible refine (within_call cut 1 14 _ (by omega) (by omega) (by omega)).mono ?_); rintro e w9 ⟨cc, rfl, r0, r1, hd⟩; obtain ⟨c, rfl⟩ : ∃ c : Nat, cc = c := ⟨cc.toNat, by omega⟩; have HM9 := Aside0.mk (HMS.out.step hd.below); clear hd HMS)
          | (go_at_call 19; (with_reducible refine (jall_call ((HM9.out.step ((Below.refl _ w9).alloc (Nat.le_refl _) (.cells #[.int .i64 (c : Int)] 3))).step ((Below.refl _ _).alloc (Nat.le_refl _) (.cells #[.int .i64 0] 3))).lj.jd.jour (by have := e1.out; omega)).mono ?_); rintro e wa ⟨s, rfl, hva, hb⟩; have HVA := Aside0.mk hva; have HBA := Aside0.mk hb; clear hva hb))
        have HRS := Aside0.mk ((RS.start (c := (c : Int)) (k := 0) HM9.out).step ((HBA.out).mono (Nat.le_refl _)))
        have HF := Aside0.mk (HM9.out.far (x := w9.heap.size + 1) (by omega))
        have HSA := Aside0.mk (show w9.heap.size + 1 < wa.heap.size by have := HRS.out.bi.lt; omega)
        have HSB := Aside0.mk (show w0.heap.size ≤ wa.heap.size by have := HRS.out.ms.lj.below.size; omega)
        obtain ⟨av, capv, rfl⟩ := own_len HM9.out.row
        have HNB := Aside0.mk (show w9.heap.size + 2 ≤ ((w9.alloc (Obj.cells #[Value.int IntKind.i64 (c : Int)] 3)).alloc (Obj.cells #[Value.int IntKind.i64 0] 3)).heap.size by simp)
        clear HBA HM9
        obtain ⟨xc, hxc⟩ : ∃ x, w9.heap.size = x := ⟨_, rfl⟩
        rw [hxc] at HRS HF HSA HNB ⊢
        clear hxc
        generalize ((w9.alloc (Obj.cells #[Value.int IntKind.i64 (c : Int)] 3)).alloc (Obj.cells #[Value.int IntKind.i64 0] 3)).heap.size = NB at HVA HNB
        obtain ⟨L, hL⟩ : ∃ L, J.l.length = L := ⟨_, rfl⟩
        have HL := Aside0.mk hL
        rw [hL] at HRS e1 hjl
        clear hL
        refine (wpIn_wide (n := 9)).1 ?_
        refine range_own (n := 9) (encs := fun x : ByteArray => #[Value.string x]) rfl (by omega) (gf := 37) (lb := #[.pointer (some ⟨s, 0, none⟩)]) rfl trivial (enters_of Try.func37 (by kernel_rfl) rfl)
          (vat_yields (F := Fence.wide) (n := 9 - 1) trivial rfl (by omega) HVA.out (by have := e1.out; have := HL.out; omega)) (fun r hr => hr.elim) (fun h k => h.trans k) (fun W l o hl => KV.put W l o hl) (Below.refl _ _) (fun _ => rfl)
          (fun pre W => RS w w0 xw p g q v J D (.slice av L capv) J.l xc (c : Int) (pre.length : Int) W ∧ pre.length < c)
          (fun c' pre W => c' = .exit 2 ∧ pre.length = c ∧ RS w w0 xw p g q v J D (.slice av L capv) J.l xc (c : Int) (pre.length : Int) W)
          (fun _ X Y ht h => ⟨h.1.turn HSB.out ht, h.2⟩) (fun _ _ X Y ht h => ⟨h.1, h.2.1, h.2.2.turn HSB.out ht⟩) ⟨HRS.out, by simp; omega⟩ ?round ?done ?stop
        case done =>
          intro Dd W hDd hI hK
          obtain ⟨hI1, hI2⟩ := hI
          rw [upto_length, HL.out] at hI1 hI2
          have FIN := Aside0.mk (RE.mk hI1 hK)
          have HDl : Aside0 (w.heap.size < Dd) := ⟨by have := hI1.ms.res.lt; have := hI1.ms.ord; have := HSB.out; omega⟩
          have q9 : ((L : Int) == min (c : Int) (L : Int)) = true := beq_iff_eq.2 (by omega)
          obtain ⟨c1, c2, c3, c4, c5, c6⟩ := hI1.cells
          clear hI1 hI2 hK
          go_wp2_with (go_at_call 3; (with_reducible refine (runs_walk _).mono ?_); rintro e wt ⟨rfl, b5⟩; have FT := Aside0.mk (FIN.out.step b5); obtain ⟨_, _, _, _, c11, c12⟩ := FT.out.st.cells; clear b5)
          have st0 := FT.out.st.ms.res.set (.bool true)
          have k0 : (wt.setCell ⟨w.heap.size, 0, none⟩ (.bool true)).heap[Dd]? = some (.deferred (some [])) := (Below.heap_setCell _ _ _ _ (Nat.ne_of_gt HDl.out)).trans FT.out.mark
          have bw := FT.out.st.ms.below.setCell (p := ⟨w.heap.size, 0, none⟩) (Nat.le_refl _) (.bool true)
          generalize wt.setCell ⟨w.heap.size, 0, none⟩ (.bool true) = W9 at st0 k0 bw ⊢
          have e8 := (st0.kept (grownBy_putObj' W9 Dd (.deferred none)) (by simp; have := HDl.out; omega)).cell
          refine ⟨by simp, .inl ⟨_, _, rfl, run_takeDeferred k0, .bool true, by simp [results, Try.f7, go_sem, e8], rfl, ?_⟩⟩
          exact bw.grown (grownBy_putObj' _ Dd (.deferred none)) bw.size (fun k e => by cases e; exact Nat.le_of_lt HDl.out)
        case stop =>
          rintro Dd c' pre W hDd hp ⟨rfl, hpc, hI1⟩ hK
          have hple := hp.length_le
          rw [upto_length, HL.out] at hple
          rw [hpc] at hI1 hple
          have FIN := Aside0.mk (RE.mk hI1 hK)
          have HDl : Aside0 (w.heap.size < Dd) := ⟨by have := hI1.ms.res.lt; have := hI1.ms.ord; have := HSB.out; omega⟩
          have q9 : ((c : Int) == min (c : Int) (L : Int)) = true := beq_iff_eq.2 (by omega)
          obtain ⟨c1, c2, c3, c4, c5, c6⟩ := hI1.cells
          clear hI1 hK hp hpc hple
          refine wpIn_wide.2 ?_
          go_wp2_with (go_at_call 3; (with_reducible refine (runs_walk _).mono ?_); rintro e wt ⟨rfl, b5⟩; have FT := Aside0.mk (FIN.out.step b5); obtain ⟨_, _, _, _, c11, c12⟩ := FT.out.st.cells; clear b5)
          have st0 := FT.out.st.ms.res.set (.bool true)
          have k0 : (wt.setCell ⟨w.heap.size, 0, none⟩ (.bool true)).heap[Dd]? = some (.deferred (some [])) := (Below.heap_setCell _ _ _ _ (Nat.ne_of_gt HDl.out)).trans FT.out.mark
          have bw := FT.out.st.ms.below.setCell (p := ⟨w.heap.size, 0, none⟩) (Nat.le_refl _) (.bool true)
          generalize wt.setCell ⟨w.heap.size, 0, none⟩ (.bool true) = W9 at st0 k0 bw ⊢
          have e8 := (st0.kept (grownBy_putObj' W9 Dd (.deferred none)) (by simp; have := HDl.out; omega)).cell
          refine ⟨by simp, .inl ⟨_, _, rfl, run_takeDeferred k0, .bool true, by simp [results, Try.f7, go_sem, e8], rfl, ?_⟩⟩
          exact bw.grown (grownBy_putObj' _ Dd (.deferred none)) bw.size (fun k e => by cases e; exact Nat.le_of_lt HDl.out)
        case round =>
          intro l pre x W hp hl hI
          obtain ⟨hx, hlt⟩ := upto_at hp
          subst hx
          obtain ⟨k2, hk⟩ : ∃ k, pre.length = k := ⟨_, rfl⟩
          have hsn : (pre ++ [J.l.getD pre.length ⟨#[]⟩]).length = k2 + 1 := by simp [hk]
          generalize pre ++ [J.l.getD pre.length ⟨#[]⟩] = pre1 at hsn ⊢
          rw [hk] at hI hlt ⊢
          have hlt2 : k2 < L := by have := HL.out; omega
          obtain ⟨x0, hx0⟩ : ∃ y, J.l.getD k2 ⟨#[]⟩ = y := ⟨_, rfl⟩
          rw [hx0]
          clear hp hk
          obtain ⟨gw, rfl⟩ : ∃ gw, av = some ⟨gw, 0, none⟩ := by
            rcases hI.1.ms.row.2 with ⟨hv, hn0⟩ | ⟨gw, cap, cur, hv, _⟩
            · omega
            · cases hv; exact ⟨gw, rfl⟩
          gi_wp2
          refine ⟨KeepsFrom.refl _ _, fun _ _ _ _ ho => ho, fun Wb ht hL => ?_⟩
          have hS := hI.1.turn HSB.out ht
          have hkc := hI.2
          have hcx := hS.ms.rowcell (i := k2) hlt
          rw [hx0] at hcx
          obtain ⟨c1, c2, c3, c4, c5, c6⟩ := hS.cells
          have HS := Aside0.mk hS
          clear hI ht hL hS hlt hx0
          have q1 : decide ((L : Int) ≤ (k2 : Int)) = false := decide_eq_false (by omega)
          have q2 : decide ((c : Int) ≤ (k2 : Int)) = false := decide_eq_false (by omega)
          by_cases hkc1 : k2 + 1 = c
          · have q3 : ((k2 : Int) + 1 == (c : Int)) = true := beq_iff_eq.2 (by omega)
            gi_wp2
            exact ⟨(KeepsOthers.setCell _ _ _).from _, rfl, by rw [hsn]; exact hkc1, by rw [show ((pre1.length : Nat) : Int) = (k2 : Int) + 1 by rw [hsn]; simp]; exact HS.out.next HF.out _⟩
          · have q3 : ((k2 : Int) + 1 == (c : Int)) = false := beq_eq_false_iff_ne.2 (by omega)
            gi_wp2
            exact ⟨(KeepsOthers.setCell _ _ _).from _, KV.set _ _ _ _ (by have := HNB.out; omega), by rw [show ((pre1.length : Nat) : Int) = (k2 : Int) + 1 by rw [hsn]; simp]; exact HS.out.next HF.out _, by rw [hsn]; omega⟩
end Go.Proofs.Ytpnnnhdhmdildaa.Given
