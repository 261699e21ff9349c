/- WHOLE OR NOT AT ALL: some transactions, the last one torn anywhere: opened anew there are those ahead of it; and it, just if its last piece was wholly written; what is committed then comes behind these. For every input. No condition. -/
import Derived.Test.YtpnnnhdhmdildaaJnC
set_option linter.unusedVariables false
set_option linter.unusedSimpArgs false
namespace Go.Proofs.Ytpnnnhdhmdildaa.Given
open Go.RowKit Go.Proofs.YtpnnnhdhmdildaaW.PrintWords Go.Proofs.Ytpnnnhdhmdildaa.J Go.Proofs.Ytpnnnhdhmdildaa.RF
attribute [local go_sem] Oper.semAt_some
theorem ask_step {w W : World} (hb : Below w.heap.size w W) {x : Addr} {k : Nat} (h : AskAt w x k) : AskAt W x k := by
  obtain ⟨a, b, c, d, z, h1, h2, h3, h4, h5, c0, c1, c2, c3, c4⟩ := h
  exact ⟨a, b, c, d, z, h1, h2, h3, h4, h5, pw_cell_below hb c0, pw_cell_below hb c1, pw_cell_below hb c2, pw_cell_below hb c3, pw_cell_below hb c4⟩
/-- What the loop of commits keeps. -/
structure TI (i : Nat) (J : JS) (D : DS) : Prop where
  good : Go.Proofs.Ytpnnnhdhmdildaa.J.Good D.secs J.l J.e
  ok : D.Ok
  armed : D.armed = false
  ddown : D.down = false
  jdown : J.down = false
  len : D.secs.length = 200
  left : D.left = -(J.e : Int)
  few : J.l.length ≤ i
  room : J.e ≤ 4 * i
theorem TI.next {i : Nat} {J : JS} {D : DS} (h : TI i J D) (hi : i ≤ 6) (s : ByteArray) (hs : np s ≤ 4) : ∃ J' D', J.commit D s = (0, J', D') ∧ TI (i + 1) J' D' ∧ J'.l = J.l ++ [s] := by
  have hr := h.room
  obtain ⟨q, h1, h2, h3, h4⟩ := commit_ok h.good h.ok h.jdown h.ddown s (by rw [h.len]; omega) (.inl h.armed) (by rw [h.left]; omega)
  refine ⟨_, _, h1, ⟨h3, h4, h.armed, h.ddown, rfl, h2.trans h.len, ?_, ?_, ?_⟩, rfl⟩
  · show D.left - (np s : Int) = -((J.e + np s : Nat) : Int)
    rw [h.left]; omega
  · show (J.l ++ [s]).length ≤ i + 1
    have := h.few
    simp; omega
  · show J.e + np s ≤ 4 * (i + 1)
    omega
theorem MS.grown {w w0 : World} {xw p g q : Nat} {v : Value} {J : JS} {D : DS} {vw : Value} {wl : List ByteArray} {W W1 W5 : World} (h : MS w w0 xw p g q v J D vw wl W) (hb : Below W.heap.size W W1) (hg : W1.grownBy W5 vw.ownBlock) : W5.cell? ⟨xw, 0, none⟩ = some vw ∧ W5.frozen? ⟨xw, 0, none⟩ = false := by
  have hc : Ch (fun i => vw.ownBlock = some i) W W5 := (Ch.of_new hb).trans (grown_ch hg)
  have := Boxed_ch h.want hc (fun e => (h.nw _ e).1 rfl)
  exact ⟨this.cell, this.frozen⟩
/-- The last transaction, torn or not. -/
theorem TI.last {i : Nat} {J : JS} {D : DS} (h : TI i J D) (hi : i ≤ 6) (last : ByteArray) (hl : np last = 3) (wn : Nat) (hw : wn ≤ 5) (kp : Int) (k0 : 0 ≤ kp) (k1 : kp ≤ 32) :
    ∃ z J3 D3, J.commit { secs := D.secs, armed := true, left := (wn : Int), keep := kp, down := false } last = (z, J3, D3) ∧ D3.Ok ∧ D3.secs.length = 200 ∧
      ((3 ≤ wn ∧ z = 0 ∧ Go.Proofs.Ytpnnnhdhmdildaa.J.Good D3.secs (J.l ++ [last]) (J.e + 3)) ∨ (wn = 2 ∧ kp = 32 ∧ z = 9 ∧ Go.Proofs.Ytpnnnhdhmdildaa.J.Good D3.secs (J.l ++ [last]) (J.e + 3)) ∨ (wn < 3 ∧ ¬ (wn = 2 ∧ kp = 32) ∧ z = 9 ∧ Go.Proofs.Ytpnnnhdhmdildaa.J.Good D3.secs J.l J.e)) := by
  have hr := h.room
  have hlen := h.len
  have ho : DS.Ok { secs := D.secs, armed := true, left := (wn : Int), keep := kp, down := false } := ok_of h.ok _ _ _ _ k0 k1 (by omega) (by omega)
  by_cases h3 : 3 ≤ wn
  · obtain ⟨q, a1, a2, a3, a4⟩ := commit_ok (J := J) (D := { secs := D.secs, armed := true, left := (wn : Int), keep := kp, down := false }) h.good ho h.jdown rfl last (by rw [hl]; show J.e + 3 ≤ D.secs.length; omega) (.inr (by rw [hl]; show (3 : Int) ≤ (wn : Int); omega)) (by rw [hl]; show (-4611686018427387904 + 3 : Int) ≤ (wn : Int); omega)
    rw [hl] at a1 a3 a4
    exact ⟨_, _, _, a1, a4, a2.trans hlen, .inl ⟨h3, rfl, a3⟩⟩
  · obtain ⟨q, a1, a2, a3, a4⟩ := commit_tears (J := J) (D := { secs := D.secs, armed := true, left := (wn : Int), keep := kp, down := false }) (m := wn) h.good ho h.jdown rfl last (by rw [hl]; show J.e + 3 ≤ D.secs.length; omega) rfl rfl (by rw [hl]; omega)
    rw [hl] at a4
    refine ⟨_, _, _, a1, a3, a2.trans hlen, ?_⟩
    by_cases hb : wn = 2 ∧ kp = 32
    · rw [if_pos ⟨by omega, hb.2⟩] at a4
      exact .inr (.inl ⟨hb.1, hb.2, rfl, a4⟩)
    · rw [if_neg (fun h => hb ⟨by omega, h.2⟩)] at a4
      exact .inr (.inr ⟨by omega, hb, rfl, a4⟩)
/-- Behind the last transaction. -/
def TL (w w0 : World) (xw p g q : Nat) (W : World) : Prop :=
  ∃ v J D vw wl e, MS w w0 xw p g q v J D vw wl W ∧ D.Ok ∧ D.secs.length = 200 ∧ Go.Proofs.Ytpnnnhdhmdildaa.J.Good D.secs wl e ∧ e ≤ 27 ∧ wl.length ≤ 7
/-- In the walk of a journal's texts: a number beside. -/
structure TS (w w0 : World) (xw p g q : Nat) (v : Value) (J : JS) (D : DS) (vw : Value) (wl : List ByteArray) (xi : Nat) (k : Int) (W : World) : Prop where
  ms : MS w w0 xw p g q v J D vw wl W
  bi : Boxed W xi 3 (.int .i64 k)
section
variable {w w0 : World} {xw p g q : Nat} {v : Value} {J : JS} {D : DS} {vw : Value} {wl : List ByteArray} {xi : Nat} {k : Int} {W W' : World}
theorem TS.step (h : TS w w0 xw p g q v J D vw wl xi k W) (hb : Below W.heap.size W W') : TS w w0 xw p g q v J D vw wl xi k W' := ⟨h.ms.step hb, Boxed_ch (S := fun _ => False) h.bi (Ch.of_new hb) id⟩
theorem TS.turn {B : Nat} (h : TS w w0 xw p g q v J D vw wl xi k W) (hB : w0.heap.size ≤ B) (ht : Turn (fun _ => False) B W W') : TS w w0 xw p g q v J D vw wl xi k W' := ⟨h.ms.turn hB ht, boxed_turn h.bi ht⟩
theorem TS.next (h : TS w w0 xw p g q v J D vw wl xi k W) (hf : w0.heap.size ≤ xi ∧ xi ≠ xw ∧ ¬ JOwn q p g v xi ∧ vw.ownBlock ≠ some xi) (k' : Int) : TS w w0 xw p g q v J D vw wl xi k' (W.setCell ⟨xi, 0, none⟩ (.int .i64 k')) :=
  ⟨h.ms.other _ hf.1 hf.2.1 hf.2.2.1 hf.2.2.2, h.bi.set _⟩
theorem TS.cells (h : TS w w0 xw p g q v J D vw wl xi k W) : W.cell? ⟨xi, 0, none⟩ = some (.int .i64 k) ∧ W.frozen? ⟨xi, 0, none⟩ = false ∧ W.cell? ⟨xw, 0, none⟩ = some vw ∧ W.cell? ⟨w.heap.size, 0, none⟩ = some (.bool false) ∧ W.frozen? ⟨w.heap.size, 0, none⟩ = false :=
  ⟨h.bi.cell, h.bi.frozen, h.ms.want.cell, h.ms.res.cell, h.ms.res.frozen⟩
theorem TS.start {w9 : World} (h : MS w w0 xw p g q v J D vw wl w9) : TS w w0 xw p g q v J D vw wl w9.heap.size k (w9.alloc (.cells #[.int .i64 k] 3)) := ⟨h.step ((Below.refl _ w9).alloc (Nat.le_refl _) _), Boxed.new w9 3 _⟩
end
/-- At the end: with the mark of the walk. -/
structure TE (w w0 : World) (xw p g q : Nat) (v : Value) (J : JS) (D : DS) (vw : Value) (wl : List ByteArray) (xi : Nat) (k : Int) (Dd : Nat) (W : World) : Prop where
  st : TS w w0 xw p g q v J D vw wl xi k W
  mark : W.heap[Dd]? = some (.deferred (some []))
theorem TE.step {w w0 : World} {xw p g q : Nat} {v : Value} {J : JS} {D : DS} {vw : Value} {wl : List ByteArray} {xi : Nat} {k : Int} {Dd : Nat} {W W' : World} (h : TE w w0 xw p g q v J D vw wl xi k Dd W) (hb : Below W.heap.size W W') : TE w w0 xw p g q v J D vw wl xi k Dd W' :=
  ⟨h.st.step hb, (hb.block Dd (Array.getElem?_eq_some_iff.1 h.mark).1).trans h.mark⟩
set_option maxRecDepth 100000 in
set_option maxHeartbeats 8000000 in
theorem torn_walk (a : Option Addr) (len cap : Nat) (writes keep : Int) (w : World) (ha : AskRow w a len cap) (hn : (Lit.int .i64 writes).wf = true) (hc : (Lit.int .i64 keep).wf = true) : Calls Try.prog 6 #[.slice a len cap, .int .i64 writes, .int .i64 keep] w fun e w' => e = .returned (.bool true) ∧ Below w.heap.size w w' := by
  clear hn hc
  have HA0 := Aside0.mk ha
  clear ha
  refine (callsIn_wide (n := 9)).1 ?_
  refine callsIn_of_wp_marks Try.func6 rfl trivial ?_ rfl
  simp only [Try.ntmps6, List.size_toArray, List.length_cons, List.length_nil, Nat.reduceAdd, Nat.reduceSub, Array.replicate_succ, Array.replicate_zero, List.push_toArray, List.append_toArray, List.nil_append, List.cons_append]
  refine wpIn_wide.2 ?_
  have dx : Below w.heap.size w (w.alloc (.cells #[.bool false] 4)) := (Below.refl _ w).alloc (Nat.le_refl _) _
  have r0 := Boxed.new w 4 (.bool false)
  have sx : w.heap.size + 1 ≤ (w.alloc (.cells #[.bool false] 4)).heap.size := by rw [World.size_alloc]; exact Nat.le_refl _
  go_wp2_with fail
  generalize w.alloc (.cells #[.bool false] 4) = w0 at dx r0 sx ⊢
  have hN := newD_ok 200 (by omega) (by omega)
  have hG := newD_good 200
  have hL : (newD 200).secs.length = 200 := by simp [newD]
  have hLf : (newD 200).left = 0 := rfl
  have hAr : (newD 200).armed = false := rfl
  have hDn : (newD 200).down = false := rfl
  generalize hD0 : newD 200 = D0 at hN hG hL hLf hAr hDn
  have HD0 := Aside0.mk hD0
  clear hD0
  refine (new_l 200 200 _ (by decide)).mono ?_
  rintro e w1 ⟨p, g, rfl, h⟩
  rw [HD0.out] at h
  have HB := Aside0.mk h
  clear h
  go_wp2_with (go_at_call 10; (with_reducible refine (open_l HB.out hN hG).mono ?_); rintro e w2 ⟨q, v, rfl, h, _, _, _⟩; have HC := Aside0.mk h; clear h HB)
  have HM : Aside0 (MS w w0 w2.heap.size p g q v ⟨[], 0, false⟩ D0 (.slice none 0 0) [] (w2.alloc (.cells #[.slice none 0 0] 30))) := ⟨(by
    have bx := HC.out.below
    have r2 : Boxed w2 w.heap.size 4 (.bool false) := Boxed_ch (S := fun _ => False) r0 (Ch.of_new HC.out.below) id
    have b2 : Below w.heap.size w w2 := dx.trans (bx.mono (by omega))
    exact ⟨HC.out.step ((Below.refl _ w2).alloc (Nat.le_refl _) _), r2.alloc _, Boxed.new w2 30 _, World.ownsRow_nil _ _ _ _, balloc _ b2 (Nat.le_refl _), ⟨by omega, bx.size⟩, fun hj => by have := HC.out.jd.own _ hj; omega, fun x hx => by simp [Value.ownBlock] at hx⟩)⟩
  have HI0 : Aside0 (TI 0 ⟨[], 0, false⟩ D0) := ⟨⟨hG, hN, hAr, hDn, rfl, hL, by rw [hLf]; rfl, Nat.le_refl _, Nat.le_refl _⟩⟩
  obtain ⟨xw, hxw⟩ : ∃ x, w2.heap.size = x := ⟨_, rfl⟩
  rw [hxw] at HM ⊢
  clear sx hxw HC dx r0 hN hG hL hLf hAr hDn HD0
  generalize w2.alloc (.cells #[.slice none 0 0] 30) = w3 at HM ⊢
  obtain ⟨i0, hi0, hz0, hz1, hz2⟩ : ∃ i0, Try.prog.info? 9 = some i0 ∧ i0.zero = some (.string ⟨#[]⟩) ∧ i0.size = 1 ∧ i0.bytes = 16 := by
    have h := info9
    cases hh : Try.prog.info? 9 with
    | none => rw [hh] at h; cases h
    | some i => rw [hh] at h; simp at h; exact ⟨i, rfl, h.1, h.2.1, h.2.2⟩
  have HIN := Aside0.mk hi0
  have HZ0 := Aside0.mk hz0
  have HZ1 := Aside0.mk hz1
  have HZ2 := Aside0.mk hz2
  clear hi0 hz0 hz1 hz2
  go_loopw [10] (fun v10 wr => ∃ (i : Nat) (J : JS) (D : DS) (v vw : Value), v10 = .int .i64 (i : Int) ∧ i ≤ 6 ∧ J.l.length ≤ i ∧ Aside0 (TI i J D) ∧ Aside0 (MS w w0 xw p g q v J D vw J.l wr)) (fun v10 _ => 6 - (intOf v10).toNat)
  case atStart => exact ⟨0, _, _, v, _, rfl, by omega, by simp, HI0, HM⟩
  case round =>
    clear HM HI0
    obtain ⟨i, J, D, v, vw, rfl, hi, hjl, HMI, HMS⟩ := hrel
    by_cases hlt : i < len ∧ i < 6
    · obtain ⟨h1, h2⟩ := hlt
      have h1i : (i : Int) < (len : Int) := by omega
      have h2i : (i : Int) < 6 := by omega
      obtain ⟨x, rfl, hc1, hc2, hat⟩ : ∃ x, a = some x ∧ len ≤ cap ∧ cap ≤ maxLen ∧ AskAt w x i := by
        rcases HA0.out with ⟨_, h, _⟩ | ⟨x, e, a1, a2, a3⟩
        · omega
        · exact ⟨x, e, a1, a2, a3 i h1⟩
      obtain ⟨fa, fb, fc, fd, fz, _, _, _, _, _, c0, c1, c2, c3, c4⟩ := ask_step HMS.out.below hat
      unfold maxLen at hc2
      have d0 : wr.cell? (x.add (i * 5)) = some (.int .i64 fa) := c0
      have d1 : wr.cell? ⟨(x.add (i * 5)).block, (x.add (i * 5)).off + 1, none⟩ = some (.int .i64 fb) := c1
      have d2 : wr.cell? ⟨(x.add (i * 5)).block, (x.add (i * 5)).off + 2, none⟩ = some (.int .i64 fc) := c2
      have d3 : wr.cell? ⟨(x.add (i * 5)).block, (x.add (i * 5)).off + 3, none⟩ = some (.int .i64 fd) := c3
      have d4 : wr.cell? ⟨(x.add (i * 5)).block, (x.add (i * 5)).off + 4, none⟩ = some (.int .u8 fz) := c4
      clear hat c0 c1 c2 c3 c4
      go_wp2_with (go_at_call 17; (with_reducible refine (text_call _ _ _ _ _ _).mono ?_); rintro e w4 ⟨s, rfl, hs, hb⟩; have HM5 := Aside0.mk (HMS.out.step hb); clear hb HMS d0 d1 d2 d3 d4)
      have hnp : np s ≤ 4 := by rw [np_eq s.size s (Nat.le_refl _)]; omega
      obtain ⟨J', D', hcm, hmi, hjl'⟩ := HMI.out.next hi s hnp
      have bl : Aside0 (-4611686018427387904 + 2001 ≤ D.left) := ⟨by rw [HMI.out.left]; have := HMI.out.room; omega⟩
      have be : Aside0 (J.e ≤ 2000) := ⟨by have := HMI.out.room; omega⟩
      have HCM := Aside0.mk hcm
      have HMI2 := Aside0.mk hmi
      have HJL := Aside0.mk hjl'
      have hjl2 : J'.l.length ≤ i + 1 := hmi.few
      clear hcm hmi hjl' hnp
      go_wp2_with (first
        | (go_at_call 11; (with_reducible refine (commit_l HM5.out.lj HMI.out.ok bl.out be.out (by omega) s (by omega) HCM.out).mono ?_); rintro e w6 ⟨rfl, v', h, hch, hv⟩; have HM6 := Aside0.mk (HM5.out.turnJ h hch hv); obtain ⟨c1, f1, _, _⟩ := HM6.out.cells; clear h hch hv HM5; have hrow := HM6.out.row; have hbs := HM6.out.lj.below.size)
        | (at_builtin; refine wpList_append_own_at _ rfl _ _ 30 rfl w0.heap.size 9 i0 (.string ⟨#[]⟩) 1 16 Try.underlying30 HIN.out HZ0.out HZ1.out HZ2.out rfl (by decide) vw J.l.length _ rfl (hrow.alloc _) ⟨w6.heap.size, 0, none⟩ 1 1 [.string s] rfl rfl (cell_one_new _ _ _) (by intro u hu; simp at hu; subst hu; rfl) (by unfold maxLen; omega) (by omega) (by simp; omega) ?_; intro v1 w7 hown hgrow hnn hat; obtain ⟨a7, cap7, hv7⟩ := own_len hown; subst hv7; have HM7 := Aside0.mk (HM6.out.app ((Below.refl _ w6).alloc (Nat.le_refl _) _) hgrow hown hat); clear c1 f1; obtain ⟨c1, f1⟩ := HM6.out.grown ((Below.refl _ w6).alloc (Nat.le_refl _) _) hgrow; clear hown hgrow hat hnn hrow hbs))
      go_roundw
      case rel => exact ⟨i + 1, J', D', v', _, by go_num, by omega, hjl2, HMI2, ⟨by rw [HJL.out]; exact HM7.out⟩⟩
      case measure => simp [intOf]; omega
    · rcases (by omega : ¬ i < len ∨ (i < len ∧ i = 6)) with h1 | ⟨h1, h2⟩
      all_goals
        obtain ⟨av, capv, rfl⟩ := own_len HMS.out.row
        obtain ⟨L, hL⟩ : ∃ L, J.l.length = L := ⟨_, rfl⟩
        have HL := Aside0.mk hL
        rw [hL] at hjl HMS
        clear hL
        go_wp2_with fail
        generalize hlastA : (⟨(([116, 104, 101, 32, 108, 97, 115, 116, 32, 111, 110, 101, 44, 32, 111, 102, 32, 109, 111, 114, 101, 32, 116, 104, 97, 110, 32, 111, 110, 101, 32, 115, 101, 99, 116, 111, 114, 32, 105, 110] : List UInt8).append [32, 97, 110, 121, 32, 99, 97, 115, 101, 44, 32, 115, 111, 32, 116, 104, 97, 116, 32, 105, 116, 32, 99, 97, 110, 32, 98, 101, 32, 116, 111, 114, 110, 32, 119, 105, 116, 104, 105, 110]).toArray⟩ : ByteArray) = lastA
        generalize hlast : (⟨#[116, 104, 101, 32, 108, 97, 115, 116, 32, 111, 110, 101, 44, 32, 111, 102, 32, 109, 111, 114, 101, 32, 116, 104, 97, 110, 32, 111, 110, 101, 32, 115, 101, 99, 116, 111, 114, 32, 105, 110, 32, 97, 110, 121, 32, 99, 97, 115, 101, 44, 32, 115, 111, 32, 116, 104, 97, 116, 32, 105, 116, 32, 99, 97, 110, 32, 98, 101, 32, 116, 111, 114, 110, 32, 119, 105, 116, 104, 105, 110]⟩ : ByteArray) = last
        obtain rfl : lastA = last := by rw [← hlastA, ← hlast]; rfl
        clear hlastA
        have hls : lastA.size = 80 := by rw [← hlast]; rfl
        have hnl : np lastA = 3 := by rw [np_eq lastA.size lastA (Nat.le_refl _), hls]; rfl
        clear hlast
        have HNL := Aside0.mk hnl
        have HLS : Aside0 (lastA.size ≤ 60000) := ⟨by omega⟩
        clear hnl hls
        refine (pieces_l lastA _ (by have := HLS.out; omega)).mono ?_
        rintro e w5 ⟨a1, cap1, rfl, h⟩
        have HM5 := Aside0.mk (HMS.out.step h.below)
        rw [HNL.out]
        clear h HMS
        go_wp2_with (first
          | (go_at_call 18; (with_reducible refine (within_call writes 0 5 _ (by omega) (by omega) (by omega)).mono ?_); rintro e w6 ⟨ww, rfl, r0, r1, hd⟩; obtain ⟨wn, rfl⟩ : ∃ wn : Nat, ww = wn := ⟨ww.toNat, by omega⟩; have HM6 := Aside0.mk (HM5.out.step hd.below); clear hd HM5)
          | (go_at_call 18; (with_reducible refine (within_call keep 0 32 _ (by omega) (by omega) (by omega)).mono ?_); rintro e w7 ⟨kp, rfl, k0, k1, hd⟩; have HM7 := Aside0.mk (HM6.out.step hd.below); clear hd HM6)
          | (go_at_call 12; (with_reducible refine (arm_l HM7.out.lj (wn : Int) kp).mono ?_); rintro e w8 ⟨rfl, h, hch⟩; have HM8 := Aside0.mk (HM7.out.turnJ (D' := { secs := D.secs, armed := true, left := (wn : Int), keep := kp, down := false }) (by have q1 : max (wn : Int) 0 = (wn : Int) := (by omega); have q2 : max 0 (min kp 32) = kp := (by omega); rw [q1, q2, HMI.out.ddown] at h; exact h) (hch.mono (fun i _ hs => by rcases hs with e | e; exact .inr (.inl e); exact .inr (.inr (.inl e)))) (.inl rfl)); clear h hch HM7))
        have hw5 : wn ≤ 5 := by omega
        obtain ⟨z, J3, D3, hcm, hok, hlen3, hcase⟩ := HMI.out.last hi lastA HNL.out wn hw5 kp k0 k1
        have be : Aside0 (J.e ≤ 2000) := ⟨by have := HMI.out.room; omega⟩
        have bl : Aside0 (-4611686018427387904 + 2001 ≤ ({ secs := D.secs, armed := true, left := (wn : Int), keep := kp, down := false } : DS).left) := ⟨by show (-4611686018427387904 + 2001 : Int) ≤ (wn : Int); omega⟩
        have bo := Aside0.mk (ok_of HMI.out.ok true false (wn : Int) kp k0 k1 (by omega) (by omega))
        have HCM := Aside0.mk hcm
        have HOK := Aside0.mk hok
        have HL3 := Aside0.mk hlen3
        have hll : J.l.length ≤ 2000 := by have := HL.out; omega
        have HLL := Aside0.mk hll
        have hrm : Aside0 (J.e ≤ 24) := ⟨by have := HMI.out.room; omega⟩
        clear hcm hok hlen3 hll
        rcases hcase with ⟨g1, rfl, hg⟩ | ⟨g1, g2, rfl, hg⟩ | ⟨g1, g2, rfl, hg⟩
        focus
          have HG := Aside0.mk hg
          have q1 : decide ((wn : Int) < 3) = false := decide_eq_false (by omega)
          clear hg
          go_wp2_with (first
            | (go_at_call 11; (with_reducible refine (commit_l HM8.out.lj bo.out bl.out be.out HLL.out lastA HLS.out HCM.out).mono ?_); rintro e w9 ⟨rfl, v3, h, hch, hv⟩; have HM9 := Aside0.mk (HM8.out.turnJ h hch hv); obtain ⟨c1, f1, _, _⟩ := HM9.out.cells; clear h hch hv HM8; have hrow := HM9.out.row; rw [HL.out] at hrow; have hbs := HM9.out.lj.below.size)
            | (at_builtin; refine wpList_append_own_at _ rfl _ _ 30 rfl w0.heap.size 9 i0 (.string ⟨#[]⟩) 1 16 Try.underlying30 HIN.out HZ0.out HZ1.out HZ2.out rfl (by decide) (.slice av L capv) L _ rfl (hrow.alloc _) ⟨w9.heap.size, 0, none⟩ 1 1 [.string lastA] rfl rfl (cell_one_new _ _ _) (by intro u hu; simp at hu; subst hu; rfl) (by unfold maxLen; omega) (by omega) (by simp; omega) ?_; intro v1 wa hown hgrow hnn hat; obtain ⟨a7, cap7, hv7⟩ := own_len hown; subst hv7; have HMa := Aside0.mk (HM9.out.app ((Below.refl _ w9).alloc (Nat.le_refl _) _) hgrow (by rw [HL.out]; exact hown) hat); clear c1 f1; obtain ⟨c1, f1⟩ := HM9.out.grown ((Below.refl _ w9).alloc (Nat.le_refl _) _) hgrow; clear hown hgrow hat hnn hrow hbs))
          clear c1 f1 HM9
          have HT := Aside0.mk (show TL w w0 xw p g q _ from ⟨_, J3, D3, _, J.l ++ [lastA], J.e + 3, HMa.out, HOK.out, HL3.out, HG.out, by have := hrm.out; omega, by have := HL.out; simp; omega⟩)
          clear HMa
          generalize wa.setCell ⟨xw, 0, none⟩ (.slice a7 (L + 1) cap7) = w3' at HT ⊢
        rotate_left
        focus
          have HG := Aside0.mk hg
          have q1 : decide ((wn : Int) < 3) = true := decide_eq_true (by omega)
          have q2 : ((wn : Int) == 2) = true := beq_iff_eq.2 (by omega)
          have q3 : (kp == 32) = true := beq_iff_eq.2 (by omega)
          clear hg
          go_wp2_with (first
            | (go_at_call 11; (with_reducible refine (commit_l HM8.out.lj bo.out bl.out be.out HLL.out lastA HLS.out HCM.out).mono ?_); rintro e w9 ⟨rfl, v3, h, hch, hv⟩; have HM9 := Aside0.mk (HM8.out.turnJ h hch hv); obtain ⟨c1, f1, _, _⟩ := HM9.out.cells; clear h hch hv HM8; have hrow := HM9.out.row; rw [HL.out] at hrow; have hbs := HM9.out.lj.below.size)
            | (at_builtin; refine wpList_append_own_at _ rfl _ _ 30 rfl w0.heap.size 9 i0 (.string ⟨#[]⟩) 1 16 Try.underlying30 HIN.out HZ0.out HZ1.out HZ2.out rfl (by decide) (.slice av L capv) L _ rfl (hrow.alloc _) ⟨w9.heap.size, 0, none⟩ 1 1 [.string lastA] rfl rfl (cell_one_new _ _ _) (by intro u hu; simp at hu; subst hu; rfl) (by unfold maxLen; omega) (by omega) (by simp; omega) ?_; intro v1 wa hown hgrow hnn hat; obtain ⟨a7, cap7, hv7⟩ := own_len hown; subst hv7; have HMa := Aside0.mk (HM9.out.app ((Below.refl _ w9).alloc (Nat.le_refl _) _) hgrow (by rw [HL.out]; exact hown) hat); clear c1 f1; obtain ⟨c1, f1⟩ := HM9.out.grown ((Below.refl _ w9).alloc (Nat.le_refl _) _) hgrow; clear hown hgrow hat hnn hrow hbs))
          clear c1 f1 HM9
          have HT := Aside0.mk (show TL w w0 xw p g q _ from ⟨_, J3, D3, _, J.l ++ [lastA], J.e + 3, HMa.out, HOK.out, HL3.out, HG.out, by have := hrm.out; omega, by have := HL.out; simp; omega⟩)
          clear HMa
          generalize wa.setCell ⟨xw, 0, none⟩ (.slice a7 (L + 1) cap7) = w3' at HT ⊢
        rotate_left
        focus
          have HG := Aside0.mk hg
          have q1 : decide ((wn : Int) < 3) = true := decide_eq_true (by omega)
          clear hg
          by_cases h2 : wn = 2
          focus
            have q2 : ((wn : Int) == 2) = true := beq_iff_eq.2 (by omega)
            have q3 : (kp == 32) = false := beq_eq_false_iff_ne.2 (fun e => g2 ⟨h2, e⟩)
            clear g2 h2
            go_wp2_with (go_at_call 11; (with_reducible refine (commit_l HM8.out.lj bo.out bl.out be.out HLL.out lastA HLS.out HCM.out).mono ?_); rintro e w9 ⟨rfl, v3, h, hch, hv⟩; have HM9 := Aside0.mk (HM8.out.turnJ h hch hv); obtain ⟨c1, f1, _, _⟩ := HM9.out.cells; clear h hch hv HM8; have hrow := HM9.out.row; rw [HL.out] at hrow; have hbs := HM9.out.lj.below.size)
            clear c1 f1 hrow hbs
            have HT := Aside0.mk (show TL w w0 xw p g q _ from ⟨_, J3, D3, _, J.l, J.e, HM9.out, HOK.out, HL3.out, HG.out, by have := hrm.out; omega, by have := HL.out; omega⟩)
            clear HM9
            generalize w9 = w3' at HT ⊢
          rotate_left
          focus
            have q2 : ((wn : Int) == 2) = false := beq_eq_false_iff_ne.2 (by omega)
            clear g2 h2
            go_wp2_with (go_at_call 11; (with_reducible refine (commit_l HM8.out.lj bo.out bl.out be.out HLL.out lastA HLS.out HCM.out).mono ?_); rintro e w9 ⟨rfl, v3, h, hch, hv⟩; have HM9 := Aside0.mk (HM8.out.turnJ h hch hv); obtain ⟨c1, f1, _, _⟩ := HM9.out.cells; clear h hch hv HM8; have hrow := HM9.out.row; rw [HL.out] at hrow; have hbs := HM9.out.lj.below.size)
            clear c1 f1 hrow hbs
            have HT := Aside0.mk (show TL w w0 xw p g q _ from ⟨_, J3, D3, _, J.l, J.e, HM9.out, HOK.out, HL3.out, HG.out, by have := hrm.out; omega, by have := HL.out; omega⟩)
            clear HM9
            generalize w9 = w3' at HT ⊢
          rotate_left
        rotate_left 2
        all_goals
          obtain ⟨v4, J4, D4, vw4, wl, e4, hms, hok, hl4, hg4, he4, hw4⟩ := HT.out
          obtain ⟨a4, cp4, rfl⟩ := own_len hms.row
          obtain ⟨M, hM⟩ : ∃ M, wl.length = M := ⟨_, rfl⟩
          have nn : np ⟨#[110, 101, 119]⟩ = 1 := np_short (by decide)
          have ho5 : DS.Ok { secs := D4.secs, armed := true, left := 1000, keep := 0, down := false } := ok_of hok _ _ _ _ (by decide) (by decide) (by decide) (by decide)
          obtain ⟨q5, hc5, hl5, hg5, ho6⟩ := commit_ok (J := ⟨wl, e4, false⟩) (D := { secs := D4.secs, armed := true, left := 1000, keep := 0, down := false }) hg4 ho5 rfl rfl ⟨#[110, 101, 119]⟩ (by rw [nn]; show e4 + 1 ≤ D4.secs.length; omega) (.inr (by rw [nn]; show (1 : Int) ≤ 1000; decide)) (by rw [nn]; show (-4611686018427387904 + 1 : Int) ≤ 1000; decide)
          rw [nn] at hc5 hg5 ho6
          have HMl := Aside0.mk hM
          have O5 := Aside0.mk ho5
          have C5 := Aside0.mk hc5
          have G6 := Aside0.mk hg5
          have O6 := Aside0.mk ho6
          have HG4 := Aside0.mk hg4
          have bl5 : Aside0 (-4611686018427387904 + 2001 ≤ ({ secs := D4.secs, armed := true, left := 1000, keep := 0, down := false } : DS).left) := ⟨by show (-4611686018427387904 + 2001 : Int) ≤ 1000; decide⟩
          have be5 : Aside0 ((JS.mk wl e4 false).e ≤ 2000) := ⟨by show e4 ≤ 2000; omega⟩
          have HLL5 : Aside0 ((JS.mk wl e4 false).l.length ≤ 2000) := ⟨by show wl.length ≤ 2000; omega⟩
          have HW7 : Aside0 (M ≤ 7) := ⟨by omega⟩
          rw [hM] at hms
          have HA := Aside0.mk hms
          clear hms hok hl4 hg4 hM HT nn ho5 hc5 hl5 hg5 ho6 hw4 he4
          go_wp2_with (first
            | (go_at_call 13; (with_reducible refine (revive_l HA.out.lj).mono ?_); rintro e wb ⟨rfl, h, hch⟩; have HB1 := Aside0.mk (HA.out.turnJ h (hch.mono (fun i _ hs => by rcases hs with e | e; exact .inr (.inl e); exact .inr (.inr (.inl e)))) (.inl rfl)); clear h hch HA)
            | (go_at_call 12; (with_reducible refine (arm_l HB1.out.lj 1000 0).mono ?_); rintro e wc ⟨rfl, h, hch⟩; have HC1 := Aside0.mk (HB1.out.turnJ (D' := { secs := D4.secs, armed := true, left := 1000, keep := 0, down := false }) (by have q1 : max (1000 : Int) 0 = 1000 := (by decide); have q2 : max (0 : Int) (min 0 32) = 0 := (by decide); rw [q1, q2] at h; exact h) (hch.mono (fun i _ hs => by rcases hs with e | e; exact .inr (.inl e); exact .inr (.inr (.inl e)))) (.inl rfl)); clear h hch HB1)
            | (go_at_call 10; (with_reducible refine (open_l HC1.out.lj.ld O5.out HG4.out).mono ?_); rintro e wd ⟨q', v', rfl, h, hb, h1, h2⟩; have HD1 := Aside0.mk (HC1.out.newJ h hb h1 h2); clear h hb h1 h2 HC1)
            | (go_at_call 11; (with_reducible refine (commit_l HD1.out.lj O5.out bl5.out be5.out HLL5.out ⟨#[110, 101, 119]⟩ (by decide) C5.out).mono ?_); rintro e we ⟨rfl, v'', h, hch, hv⟩; have HE1 := Aside0.mk (HD1.out.turnJ h hch hv); obtain ⟨c1, f1, _, _⟩ := HE1.out.cells; clear h hch hv HD1; have hrow := HE1.out.row; rw [HMl.out] at hrow; have hbs := HE1.out.lj.below.size)
            | (at_builtin; refine wpList_append_own_at _ rfl _ _ 30 rfl w0.heap.size 9 i0 (.string ⟨#[]⟩) 1 16 Try.underlying30 HIN.out HZ0.out HZ1.out HZ2.out rfl (by decide) (.slice a4 M cp4) M _ rfl (hrow.alloc _) ⟨we.heap.size, 0, none⟩ 1 1 [.string ⟨#[110, 101, 119]⟩] rfl rfl (cell_one_new _ _ _) (by intro u hu; simp at hu; subst hu; rfl) (by unfold maxLen; have := HW7.out; omega) (by have := HW7.out; omega) (by simp; omega) ?_; intro v1 wf hown hgrow hnn hat; obtain ⟨a7, cap7, hv7⟩ := own_len hown; subst hv7; have HF1 := Aside0.mk (HE1.out.app ((Below.refl _ we).alloc (Nat.le_refl _) _) hgrow (by rw [HMl.out]; exact hown) hat); clear c1 f1; obtain ⟨c1, f1⟩ := HE1.out.grown ((Below.refl _ we).alloc (Nat.le_refl _) _) hgrow; clear hown hgrow hat hnn hrow hbs)
            | (go_at_call 10; (with_reducible refine (open_l HF1.out.lj.ld O6.out G6.out).mono ?_); rintro e wg ⟨q2, v2, rfl, h, hb, h1, h2⟩; have HG1 := Aside0.mk (HF1.out.newJ h hb h1 h2); clear h hb h1 h2 HF1 c1 f1; obtain ⟨c1, f1, _, _⟩ := HG1.out.cells))
          have HZ : Aside0 (((JS.mk (wl ++ [(⟨#[110, 101, 119]⟩ : ByteArray)]) (e4 + 1) false).l.length : Int) = (M : Int) + 1) := ⟨by show ((wl ++ [_]).length : Int) = _; rw [List.length_append, HMl.out]; rfl⟩
          go_quiet ((go_at_call 14; exact len_q HG1.out.lj HZ.out _))
          have HH1 := Aside0.mk (HG1.out.step (Drawn0.below ⟨⟨nq, rfl⟩⟩))
          clear c1 f1 HG1
          generalize wg.drewN nq = w9 at HH1 ⊢
          go_wp2_with (go_at_call 19; refine (jall_call ((HH1.out.step ((Below.refl _ w9).alloc (Nat.le_refl _) (.cells #[.int .i64 0] 3)))).lj.jd.jour (by show (wl ++ [_]).length ≤ 100000; rw [List.length_append, HMl.out]; have := HW7.out; simp; omega)).mono ?_; rintro e wa ⟨s, rfl, hva, hb⟩; have HVA := Aside0.mk hva; have HBA := Aside0.mk hb; clear hva hb)
          have HV2 := Aside0.mk (show VAt (w9.alloc (.cells #[.int .i64 0] 3)).heap.size s (wl ++ [(⟨#[110, 101, 119]⟩ : ByteArray)]) wa from HVA.out)
          have HL2 : Aside0 ((wl ++ [(⟨#[110, 101, 119]⟩ : ByteArray)]).length = M + 1) := ⟨by rw [List.length_append, HMl.out]; rfl⟩
          have HTS := Aside0.mk ((TS.start (k := 0) HH1.out).step (HBA.out))
          have HF := Aside0.mk (HH1.out.far (x := w9.heap.size) (Nat.le_refl _))
          have HSB := Aside0.mk (show w0.heap.size ≤ wa.heap.size by have := HTS.out.ms.lj.below.size; omega)
          have HNB := Aside0.mk (show w9.heap.size + 1 ≤ (w9.alloc (Obj.cells #[Value.int IntKind.i64 0] 3)).heap.size by simp)
          clear HBA HH1 HVA
          obtain ⟨xi, hxi⟩ : ∃ x, w9.heap.size = x := ⟨_, rfl⟩
          rw [hxi] at HTS HF HNB ⊢
          clear hxi
          generalize (w9.alloc (Obj.cells #[Value.int IntKind.i64 0] 3)).heap.size = NB at HV2 HNB
          generalize JS.mk (wl ++ [(⟨#[110, 101, 119]⟩ : ByteArray)]) (e4 + 1) false = JJ at HTS
          generalize wl ++ [(⟨#[110, 101, 119]⟩ : ByteArray)] = wl2 at HV2 HL2 HTS HF
          refine (wpIn_wide (n := 9)).1 ?_
          refine range_own (n := 9) (encs := fun x : ByteArray => #[Value.string x]) rfl (by omega) (gf := 37) (lb := #[.pointer (some ⟨s, 0, none⟩)]) rfl trivial (enters_of Try.func37 (by kernel_rfl) rfl)
            (vat_yields (F := Fence.wide) (n := 9 - 1) trivial rfl (by omega) HV2.out (by have := HW7.out; rw [HL2.out]; omega)) (fun r hr => hr.elim) (fun h k => h.trans k) (fun W l o hl => KV.put W l o hl) (Below.refl _ _) (fun _ => rfl)
            (fun pre W => TS w w0 xw p g q2 v2 JJ _ (.slice a7 (M + 1) cap7) wl2 xi (pre.length : Int) W)
            (fun c' pre W => False)
            (fun _ X Y ht h => h.turn HSB.out ht) (fun _ _ X Y ht h => h) HTS.out ?round ?done ?stop
          case stop => exact fun _ _ _ _ _ _ h _ => h.elim
          case done =>
            intro Dd W hDd hI1 hK
            rw [upto_length, HL2.out] at hI1
            have FIN := Aside0.mk (TE.mk hI1 hK)
            have HDl : Aside0 (w.heap.size < Dd) := ⟨by have := hI1.ms.res.lt; have := hI1.ms.ord; have := HSB.out; omega⟩
            obtain ⟨c1, c2, c3, c4, c5⟩ := hI1.cells
            clear hI1 hK
            go_wp2_with (go_at_call 3; (with_reducible refine (runs_walk _).mono ?_); rintro e wt ⟨rfl, b5⟩; have FT := Aside0.mk (FIN.out.step b5); obtain ⟨_, _, _, c11, c12⟩ := FT.out.st.cells; clear b5)
            have st0 := FT.out.st.ms.res.set (.bool true)
            have k0 : (wt.setCell ⟨w.heap.size, 0, none⟩ (.bool true)).heap[Dd]? = some (.deferred (some [])) := (Below.heap_setCell _ _ _ _ (Nat.ne_of_gt HDl.out)).trans FT.out.mark
            have bw := FT.out.st.ms.below.setCell (p := ⟨w.heap.size, 0, none⟩) (Nat.le_refl _) (.bool true)
            generalize wt.setCell ⟨w.heap.size, 0, none⟩ (.bool true) = W9 at st0 k0 bw ⊢
            have e8 := (st0.kept (grownBy_putObj' W9 Dd (.deferred none)) (by simp; have := HDl.out; omega)).cell
            refine ⟨by simp, .inl ⟨_, _, rfl, run_takeDeferred k0, .bool true, by simp [results, Try.f6, go_sem, e8], rfl, ?_⟩⟩
            exact bw.grown (grownBy_putObj' _ Dd (.deferred none)) bw.size (fun k e => by cases e; exact Nat.le_of_lt HDl.out)
          case round =>
            intro l pre x W hp hl hI
            obtain ⟨hx, hlt⟩ := upto_at hp
            subst hx
            obtain ⟨k2, hk⟩ : ∃ k, pre.length = k := ⟨_, rfl⟩
            have hsn : (pre ++ [wl2.getD pre.length ⟨#[]⟩]).length = k2 + 1 := by simp [hk]
            generalize pre ++ [wl2.getD pre.length ⟨#[]⟩] = pre1 at hsn ⊢
            rw [hk] at hI hlt ⊢
            have hlt2 : k2 < M + 1 := by have := HL2.out; omega
            obtain ⟨x0, hx0⟩ : ∃ y, wl2.getD k2 ⟨#[]⟩ = y := ⟨_, rfl⟩
            rw [hx0]
            clear hp hk
            obtain ⟨gw, rfl⟩ : ∃ gw, a7 = some ⟨gw, 0, none⟩ := by
              rcases hI.ms.row.2 with ⟨hv, hn0⟩ | ⟨gw, cap, cur, hv, _⟩
              · omega
              · injection hv with e1 e2 e3; exact ⟨gw, e1⟩
            gi_wp2
            refine ⟨KeepsFrom.refl _ _, fun _ _ _ _ ho => ho, fun Wb ht hL => ?_⟩
            have hS := hI.turn HSB.out ht
            have hcx := hS.ms.rowcell (i := k2) hlt
            rw [hx0] at hcx
            obtain ⟨c1, c2, c3, c4, c5⟩ := hS.cells
            have HS := Aside0.mk hS
            clear hI ht hL hS hlt hx0
            have q1 : decide ((M : Int) + 1 ≤ (k2 : Int)) = false := decide_eq_false (by omega)
            have hk8 : k2 ≤ 8 := by have := HW7.out; omega
            gi_wp2
            exact ⟨(KeepsOthers.setCell _ _ _).from _, KV.set _ _ _ _ (by have := HNB.out; omega), by show TS w w0 xw p g q2 v2 JJ _ _ wl2 xi ((pre1.length : Nat) : Int) _; rw [show ((pre1.length : Nat) : Int) = (k2 : Int) + 1 by rw [hsn]; simp]; exact HS.out.next HF.out _⟩
end Go.Proofs.Ytpnnnhdhmdildaa.Given
