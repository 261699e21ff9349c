/- The journal: Commit, where pieces are written. -/
import Derived.Test.YtpnnnhdhmdildaaJn6
import Derived.Test.YtpnnnhdhmdildaaJn1
import Derived.Test.YtpnnnhdhmdildaaPJour3
import Derived.Test.YtpnnnhdhmdildaaApp
import Derived.Deep.AppendLies
set_option linter.unusedVariables false
set_option linter.unusedSimpArgs false
namespace Go.Proofs.Ytpnnnhdhmdildaa.Given
open Go.RowKit Go.Proofs.YtpnnnhdhmdildaaW.PrintWords Go.Proofs.Ytpnnnhdhmdildaa.J Go.Proofs.Ytpnnnhdhmdildaa.RF
theorem write_ok {D : DS} (hD : D.Ok) (hl : -4611686018427387904 < D.left) (i : Int) (data : ByteArray) : (D.write i data).2.Ok := by
  unfold DS.write
  by_cases hf : D.fits i data
  · rw [if_pos hf]
    obtain ⟨_, h1, h2, h3⟩ := hf
    have hw := wholeS_size data h3
    have hk : i.toNat < D.secs.length := by omega
    have hg : (D.secs.getD i.toNat ⟨#[]⟩).size = 32 := by
      rw [List.getD_eq_getElem?_getD, List.getElem?_eq_getElem hk]
      exact hD.size _ (List.getElem_mem hk)
    have k0 := hD.keep0
    have k1 := hD.keep1
    have l1 := hD.left1
    split
    · refine ⟨by simpa using hD.one, by simpa using hD.most, fun s hs => ?_, hD.keep0, hD.keep1, hD.left0, hD.left1⟩
      rcases List.mem_or_eq_of_mem_set hs with hs | rfl
      · exact hD.size s hs
      · rw [ByteArray.size_append, ByteArray.size_extract, ByteArray.size_extract, hw, hg]
        omega
    · refine ⟨by simpa using hD.one, by simpa using hD.most, fun s hs => ?_, hD.keep0, hD.keep1, ?_, ?_⟩
      · rcases List.mem_or_eq_of_mem_set hs with hs | rfl
        · exact hD.size s hs
        · exact hw
      · show -4611686018427387904 ≤ D.left - 1
        omega
      · show D.left - 1 ≤ 9223372036854775807
        omega
  · rw [if_neg hf]
    exact hD
theorem write_len (D : DS) (i : Int) (data : ByteArray) : (D.write i data).2.secs.length = D.secs.length := J.wlenJ D i data
theorem write_left (D : DS) (i : Int) (data : ByteArray) : D.left - 1 ≤ (D.write i data).2.left := by
  unfold DS.write
  split
  · split
    · show D.left - 1 ≤ D.left; omega
    · show D.left - 1 ≤ D.left - 1; omega
  · show D.left - 1 ≤ D.left; omega
theorem wfJ {n : Int} (h0 : -9223372036854775808 ≤ n) (h1 : n ≤ 9223372036854775807) : (Lit.int .i64 n).wf = true := by
  simp only [Lit.wf, Bool.and_eq_true, decide_eq_true_eq]
  exact ⟨h0, h1⟩
theorem commitW_step {D : DS} {k : Nat} {p : ByteArray} {r : List ByteArray} : commitW D k (p :: r) = if (D.write (k : Int) p).1 = true then commitW (D.write (k : Int) p).2 (k + 1) r else (false, (D.write (k : Int) p).2) := rfl
theorem commitW_at {D : DS} {e i : Nat} {ps : List ByteArray} (hi : i < ps.length) {r : Bool} {D2 : DS} (hw : D.write ((e : Int) + (i : Int)) (ps.getD i ⟨#[]⟩) = (r, D2)) :
    commitW D (e + i) (ps.drop i) = if r = true then commitW D2 (e + (i + 1)) (ps.drop (i + 1)) else (false, D2) := by
  have hd : ps.drop i = ps.getD i ⟨#[]⟩ :: ps.drop (i + 1) := by
    rw [List.drop_eq_getElem_cons hi, List.getD_eq_getElem?_getD, List.getElem?_eq_getElem hi]
    rfl
  rw [hd, commitW_step, show ((e + i : Nat) : Int) = (e : Int) + (i : Int) by omega, hw]
  rfl
/-- The pieces' row. -/
structure PRow (B : Nat) (v : Value) (ps : List ByteArray) (W : World) : Prop where
  row : W.ownsRow B 9 1 v ps.length (ps.map Value.string)
  size : B ≤ W.heap.size
theorem PRow.ch {S : Nat → Prop} {B : Nat} {v : Value} {ps : List ByteArray} {W W' : World} (h : PRow B v ps W) (hc : Ch S W W') (hS : ∀ g, B ≤ g → ¬ S g) : PRow B v ps W' := ⟨own_ch h.row hc (fun g h1 _ => hS g h1), Nat.le_trans h.size hc.size⟩
theorem PRow.step {B : Nat} {v : Value} {ps : List ByteArray} {W W' : World} (h : PRow B v ps W) (hb : Below W.heap.size W W') : PRow B v ps W' := h.ch (S := fun _ => False) (Ch.of_new hb) (fun _ _ h => h)
theorem PRow.cell {B : Nat} {g n cap : Nat} {ps : List ByteArray} {W : World} (h : PRow B (.slice (some ⟨g, 0, none⟩) n cap) ps W) {i : Nat} (hi : i < ps.length) : W.cell? ⟨g, i, none⟩ = some (.string (ps.getD i ⟨#[]⟩)) := by
  have := h.row.cells (g := g) rfl i (.string (ps.getD i ⟨#[]⟩)) (by rw [List.getElem?_map, List.getD_eq_getElem?_getD, List.getElem?_eq_getElem hi]; rfl)
  have e : (⟨g, 0, none⟩ : Addr).add i = ⟨g, i, none⟩ := by unfold Addr.add; split <;> simp_all
  rwa [e] at this
theorem JD.own {b q p g : Nat} {v : Value} {J : JS} {D : DS} {W : World} (h : JD b q p g v J D W) : ∀ i, JOwn q p g v i → i < W.heap.size := by
  rintro i (rfl | rfl | rfl | e)
  · exact (Array.getElem?_eq_some_iff.1 h.jour.2.1).1
  · exact h.disk.g.2.2.1
  · exact h.disk.g.2.1
  · exact (h.jour.2.2.lt i e).2
/-- The journal goes down. -/
theorem JD.fall {b q p g : Nat} {v : Value} {J : JS} {D : DS} {W : World} (h : JD b q p g v J D W) : JD b q p g v ⟨J.l, J.e, true⟩ D (W.setCell ⟨q, 3, none⟩ (.bool true)) ∧ Ch (JOwn q p g v) W (W.setCell ⟨q, 3, none⟩ (.bool true)) := by
  refine ⟨⟨⟨h.jour.1, ?_, ?_⟩, ?_, h.qp, h.qg, h.vo⟩, (Ch.refl _ W).set _ (.inl rfl) _⟩
  · rw [Go.Joins.block_setCell h.jour.2.1]
    rfl
  · exact ownsRow_setCell_other h.jour.2.2 (fun e => (h.vo q e).1 rfl) _
  · exact h.disk.ch (S := fun i => i = q) ((Ch.refl (fun i => i = q) W).set ⟨q, 3, none⟩ rfl _) (fun e => h.qp e.symm) (fun e => h.qg e.symm)
theorem grown_ch {W W' : World} {row : Option Nat} (hg : W.grownBy W' row) : Ch (fun i => row = some i) W W' := ⟨hg.os, hg.tape, hg.output, hg.size, fun i hi hs => hg.block i hi fun e => hs e.symm⟩
/-- A text is appended to the journal's row. -/
theorem JD.grown {b q p g : Nat} {v : Value} {J : JS} {D : DS} {W W1 W5 : World} (h : JD b q p g v J D W) (hb : Below W.heap.size W W1) (hg : W1.grownBy W5 v.ownBlock) :
    W5.heap[q]? = some (.cells #[.pointer (some ⟨p, 0, none⟩), v, .int .i64 (J.e : Int), .bool J.down] 62 (0, 0)) ∧ DiskAt b p g D W5 ∧ Ch (JOwn q p g v) W W5 := by
  have hc : Ch (fun i => v.ownBlock = some i) W W5 := (Ch.of_new hb).trans (grown_ch hg)
  refine ⟨(hc.block q (Array.getElem?_eq_some_iff.1 h.jour.2.1).1 (fun e => (h.vo q e).1 rfl)).trans h.jour.2.1, h.disk.ch hc (fun e => (h.vo p e).2.1 rfl) (fun e => (h.vo g e).2.2 rfl), hc.mono fun i _ e => .inr (.inr (.inr e))⟩
theorem JD.more {b q p g : Nat} {v v1 : Value} {J : JS} {D : DS} {W W1 W5 : World} {s : ByteArray} {n : Nat} (h : JD b q p g v J D W) (hb : Below W.heap.size W W1) (hg : W1.grownBy W5 v.ownBlock) (hd : J.down = false)
    (hown : W5.ownsRow b 9 1 v1 (J.l ++ [s]).length ((J.l ++ [s]).map Value.string)) (hat : v1.ownBlock = v.ownBlock ∨ v1.ownBlock = some W1.heap.size) :
    JD b q p g v1 ⟨J.l ++ [s], n, false⟩ D ((W5.setCell ⟨q, 1, none⟩ v1).setCell ⟨q, 2, none⟩ (.int .i64 (n : Int))) ∧ Ch (JOwn q p g v) W ((W5.setCell ⟨q, 1, none⟩ v1).setCell ⟨q, 2, none⟩ (.int .i64 (n : Int))) := by
  obtain ⟨h1, h2, h3⟩ := h.grown hb hg
  have l1 : q < W.heap.size := (Array.getElem?_eq_some_iff.1 h.jour.2.1).1
  have l2 := h.disk.g
  have hs := hb.size
  have hvo : ∀ x, v1.ownBlock = some x → x ≠ q ∧ x ≠ p ∧ x ≠ g := fun x hx => by
    rcases hat with e | e
    · exact h.vo x (e.symm.trans hx)
    · rw [e] at hx; cases hx; omega
  have hqs : ∀ k u, Ch (fun i => i = q) W5 (W5.setCell ⟨q, k, none⟩ u) := fun k u => (Ch.refl (fun i => i = q) W5).set ⟨q, k, none⟩ rfl u
  refine ⟨⟨⟨h.jour.1, ?_, ?_⟩, ?_, h.qp, h.qg, hvo⟩, (h3.set ⟨q, 1, none⟩ (.inl rfl) _).set ⟨q, 2, none⟩ (.inl rfl) _⟩
  · rw [Go.Joins.block_setCell (Go.Joins.block_setCell h1 _)]
    rw [hd]
    rfl
  · exact ownsRow_setCell_other (ownsRow_setCell_other hown (fun e => (hvo q e).1 rfl) _) (fun e => (hvo q e).1 rfl) _
  · exact h2.ch (S := fun i => i = q) ((hqs 1 v1).set ⟨q, 2, none⟩ rfl _) (fun e => h.qp e.symm) (fun e => h.qg e.symm)
/-- What Commit leaves. -/
def CommitPost (b q p g : Nat) (v : Value) (J : JS) (D : DS) (s : ByteArray) (w : World) (e : Ending) (w' : World) : Prop :=
  e = .returned (.int .i64 (J.commit D s).1) ∧ ∃ v', JD b q p g v' (J.commit D s).2.1 (J.commit D s).2.2 w' ∧ Ch (JOwn q p g v) w w' ∧ (v'.ownBlock = v.ownBlock ∨ ∀ x, v'.ownBlock = some x → w.heap.size ≤ x)
theorem own_len {W : World} {B n : Nat} {v : Value} {xs : List Value} (h : W.ownsRow B 9 1 v n xs) : ∃ a cap, v = .slice a n cap := by
  rcases h.2 with ⟨hv, hn⟩ | ⟨g, cap, cur, hv, _⟩
  · exact ⟨none, 0, by rw [hv, hn]⟩
  · exact ⟨_, cap, hv⟩
theorem own_len1 {W : World} {B : Nat} {v : Value} {xs : List Value} {l : List ByteArray} {s : ByteArray} (h : W.ownsRow B 9 1 v (l ++ [s]).length xs) : ∃ a cap, v = .slice a (l.length + 1) cap := by
  obtain ⟨a, cap, e⟩ := own_len h
  exact ⟨a, cap, by rw [e]; simp⟩
set_option maxRecDepth 100000 in
set_option maxHeartbeats 4000000 in
theorem commit_write {b q p g : Nat} {v : Value} {J : JS} {D : DS} {w : World} (h : JD b q p g v J D w) (hD : D.Ok) (hll : -4611686018427387904 + 2001 ≤ D.left) (hd : J.down = false) (he : J.e ≤ 2000) (hJl : J.l.length ≤ 2000) (s : ByteArray) (hs : s.size ≤ 60000) (hf : ¬ (D.secs.length : Int) - J.e < ((piecesL s).length : Int)) :
    Calls Try.prog 11 #[.pointer (some ⟨q, 0, none⟩), .string s] w (CommitPost b q p g v J D s w) := by
  obtain ⟨c0, c1, c2, c3, f⟩ := h.jour.open
  rw [hd] at c3
  have H := Aside0.mk h
  have P := Aside0.mk PT
  have hm := hD.most
  have ws : IntKind.i64.wrap ((D.secs.length : Int) - (J.e : Int)) = (D.secs.length : Int) - (J.e : Int) := IntWalk.i64_in _ (by omega)
  have HC0 : Aside0 (J.commit D s = if (commitW D J.e (piecesL s)).1 = true then (0, ⟨J.l ++ [s], J.e + (piecesL s).length, false⟩, (commitW D J.e (piecesL s)).2) else (9, ⟨J.l, J.e, true⟩, (commitW D J.e (piecesL s)).2)) := ⟨by unfold JS.commit; rw [if_neg (by rw [hd]; decide), if_neg hf]⟩
  obtain ⟨n, hn⟩ : ∃ n, (piecesL s).length = n := ⟨_, rfl⟩
  have hps := Aside0.mk (pieces_size s.size s (Nat.le_refl _))
  rw [hn] at hf HC0
  generalize hpl : piecesL s = ps at hn hps HC0
  have HPL := Aside0.mk hpl
  have HN := Aside0.mk hn
  have q1 : decide ((D.secs.length : Int) - (J.e : Int) < (n : Int)) = false := decide_eq_false hf
  clear h hpl hn
  go_enter Try.func11, Try.ntmps11
  go_wp2_with (go_at_call 16; refine (P.out s _ (by omega)).mono ?_; rintro e w1 ⟨v1, rfl, ho⟩; rw [HPL.out] at ho; obtain ⟨a1, cap1, hv1⟩ := own_len ho.row; rw [HN.out] at hv1; subst hv1; have HB := Aside0.mk ho.below; have HR0 := Aside0.mk (PRow.mk ho.row ho.below.size); have H1 := Aside0.mk (H.out.step ho.below); obtain ⟨c0, c1, c2, c3, f⟩ := H1.out.jour.open; rw [hd] at c3; clear ho)
  go_quiet ((go_at_call 28; exact sec_q H1.out _))
  go_wp2
  have HJ := Aside0.mk (H1.out.step (Drawn0.below ⟨⟨nq, rfl⟩⟩))
  have HR := Aside0.mk (HR0.out.step (Drawn0.below ⟨⟨nq, rfl⟩⟩))
  have HX := Aside0.mk (show Ch (JOwn q p g v) w (w1.drewN nq) from (Ch.of_new HB.out).trans (Ch.of_drawn ⟨⟨nq, rfl⟩⟩))
  clear c0 c1 c2 c3 f H1 HR0 HB
  generalize w1.drewN nq = w2 at HJ HR HX ⊢
  go_loopw [29] (fun v29 wr => ∃ (i : Nat) (D' : DS), v29 = .int .i64 (i : Int) ∧ i ≤ n ∧ D'.Ok ∧ D'.secs.length = D.secs.length ∧ D.left - i ≤ D'.left ∧ Aside0 (commitW D J.e ps = commitW D' (J.e + i) (ps.drop i)) ∧ Aside0 (JD b q p g v J D' wr) ∧ Aside0 (PRow w.heap.size (.slice a1 n cap1) ps wr) ∧ Aside0 (Ch (JOwn q p g v) w wr)) (fun v _ => n - (intOf v).toNat)
  case atStart => exact ⟨0, D, rfl, by omega, hD, rfl, by omega, ⟨rfl⟩, HJ, HR, HX⟩
  case round =>
    clear HJ HR HX
    obtain ⟨i, D', rfl, hi, hD', hl', hleft, HC, HJ, HR, HX⟩ := hrel
    by_cases hlt : i < n
    · obtain ⟨x, hx⟩ : ∃ x, ps.getD i ⟨#[]⟩ = x := ⟨_, rfl⟩
      have hil : i < ps.length := by rw [HN.out]; exact hlt
      have hxs : x.size = 32 := by rw [← hx]; exact getD_size hps.out hil
      obtain ⟨g1, hg1⟩ : ∃ g1, a1 = some ⟨g1, 0, none⟩ := by
        rcases HR.out.row.2 with ⟨hv, hn0⟩ | ⟨g1, cap, cur, hv, _⟩
        · omega
        · cases hv; exact ⟨g1, rfl⟩
      subst hg1
      have hcx := HR.out.cell hil
      rw [hx] at hcx
      obtain ⟨c0, c1, c2, c3, f⟩ := HJ.out.jour.open
      have we : IntKind.i64.wrap ((J.e : Int) + (i : Int)) = (J.e : Int) + (i : Int) := IntWalk.i64_in _ (by omega)
      obtain ⟨⟨r, D2⟩, hr⟩ : ∃ z, D'.write ((J.e : Int) + (i : Int)) x = z := ⟨_, rfl⟩
      have HW := Aside0.mk hr
      have HK := Aside0.mk (commitW_at (D := D') (e := J.e) (i := i) (r := r) (D2 := D2) hil (by rw [hx]; exact hr))
      have hok := write_ok hD' (by omega) ((J.e : Int) + (i : Int)) x
      have hle2 := write_len D' ((J.e : Int) + (i : Int)) x
      have hlf2 := write_left D' ((J.e : Int) + (i : Int)) x
      rw [hr] at hok hle2 hlf2
      dsimp only at hok hle2 hlf2
      clear hx hr
      go_wp2
      go_still_tail 11, (by kernel_rfl)
      change wpList _ _ _ _ _ wr.drew
      have HD := Aside0.mk (HJ.out.step (W' := wr.drew) (Drawn0.below ⟨⟨1, rfl⟩⟩))
      have HE := Aside0.mk (HR.out.step (W' := wr.drew) (Drawn0.below ⟨⟨1, rfl⟩⟩))
      have HY := Aside0.mk (show Ch (JOwn q p g v) w wr.drew from HX.out.trans (Ch.of_drawn ⟨⟨1, rfl⟩⟩))
      clear HJ HR HX c0 c1 c2 c3 f hcx
      have hfar : Aside0 (∀ k, w.heap.size ≤ k → ¬ JOwn q p g v k) := ⟨fun k hk ho => by have := H.out.own k ho; omega⟩
      cases r with
      | true =>
        go_wp2_with (go_at_call 29; refine (HD.out.write hD' (wfJ (by omega) (by omega)) (by omega) HW.out).mono ?_; rintro e w3 ⟨rfl, h1, h2⟩; have HF := Aside0.mk h1; have HG := Aside0.mk (HY.out.trans h2); have HI := Aside0.mk (HE.out.ch h2 hfar.out); clear h1 h2)
        go_roundw
        case rel => exact ⟨i + 1, D2, by go_num, by omega, hok, by omega, by omega, ⟨by rw [HC.out, HK.out]; rfl⟩, HF, HI, HG⟩
        case measure => simp [intOf]; omega
      | false =>
        go_wp2_with (go_at_call 29; refine (HD.out.write hD' (wfJ (by omega) (by omega)) (by omega) HW.out).mono ?_; rintro e w3 ⟨rfl, h1, h2⟩; have HF := Aside0.mk h1; have HG := Aside0.mk (HY.out.trans h2); obtain ⟨c0, c1, c2, c3, f⟩ := h1.jour.open; have f3 := f 3; clear h1 h2)
        go_ret
        have hz := HF.out.fall
        have hcm : J.commit D s = (9, ⟨J.l, J.e, true⟩, D2) := by rw [HC0.out, HC.out, HK.out]; rfl
        unfold CommitPost
        rw [hcm]
        exact ⟨rfl, v, hz.1, HG.out.trans hz.2, .inl rfl⟩
    · obtain rfl : i = n := by omega
      have hcm : J.commit D s = (0, ⟨J.l ++ [s], J.e + i, false⟩, D') := by
        rw [HC0.out, HC.out, List.drop_of_length_le (by rw [HN.out]; exact Nat.le_refl _)]
        rfl
      have HCM := Aside0.mk hcm
      clear hcm HC HC0
      obtain ⟨i0, hi0, hz0, hz1, hz2⟩ : ∃ i0, Try.prog.info? 9 = some i0 ∧ i0.zero = some (.string ⟨#[]⟩) ∧ i0.size = 1 ∧ i0.bytes = 16 := by
        have h := info9
        cases hh : Try.prog.info? 9 with
        | none => rw [hh] at h; cases h
        | some i => rw [hh] at h; simp at h; exact ⟨i, rfl, h.1, h.2.1, h.2.2⟩
      have HI := Aside0.mk hi0
      have HZ0 := Aside0.mk hz0
      have HZ1 := Aside0.mk hz1
      have HZ2 := Aside0.mk hz2
      obtain ⟨c0, c1, c2, c3, f⟩ := HJ.out.jour.open
      obtain ⟨ei, hei⟩ : ∃ ei, J.e + i = ei := ⟨_, rfl⟩
      have we2 : (J.e : Int) + (i : Int) = (ei : Int) := by omega
      have we : IntKind.i64.wrap (ei : Int) = (ei : Int) := IntWalk.i64_in _ (by omega)
      rw [hei] at HCM
      clear hei
      have hbl : Aside0 (Below wr.heap.size wr (wr.alloc (.cells #[.string s] 9)).drew) := ⟨bdrew ((Below.refl _ wr).alloc (Nat.le_refl _) _)⟩
      have e1 : (wr.alloc (.cells #[.string s] 9)).cell? ⟨q, 1, none⟩ = some v := pw_cell_below hbl.out c1
      have e2 : (wr.alloc (.cells #[.string s] 9)).cell? ⟨q, 2, none⟩ = some (.int .i64 (J.e : Int)) := pw_cell_below hbl.out c2
      have HO := Aside0.mk (HJ.out.step hbl.out).jour.2.2
      have hr1 := Aside0.mk (RdS.one (W := (wr.alloc (.cells #[.string s] 9)).drew) (b := wr.heap.size) (x := s) (World.alloc_heap_new wr _))
      have hbs : Aside0 (b ≤ (wr.alloc (.cells #[.string s] 9)).drew.heap.size) := ⟨Nat.le_trans HJ.out.jour.1 (Nat.le_trans (Nat.le_of_lt (Array.getElem?_eq_some_iff.1 HJ.out.jour.2.1).1) hbl.out.size)⟩
      clear hi0 hz0 hz1 hz2
      go_wp2
      go_region_law ((refine step_app b rfl (.tmp 56) (.tmp 58) 30 i0 rfl Try.underlying30 HI.out HZ0.out HZ1.out HZ2.out v J.l [s] (some ⟨wr.heap.size, 0, none⟩) 1 1 (by rfl) (by rfl) HO.out hr1.out hbs.out (by omega) ?_; intro v1 w5 hown hgrow hat; obtain ⟨a7, cap7, hv7⟩ := own_len1 hown; subst hv7; have HG := Aside0.mk hgrow; have HOW := Aside0.mk hown; have HAT := Aside0.mk hat; have hq5 := (HJ.out.grown hbl.out hgrow).1; have d1 := (Lib.cell_of_heap hq5 1).trans rfl; have d2 := (Lib.cell_of_heap hq5 2).trans rfl; have f1 := Lib.frozen_of_heap hq5 1; have f2 := Lib.frozen_of_heap hq5 2; clear hown hgrow hat hq5))
      all_goals go_wp2
      all_goals go_ret
      all_goals
        have hz := JD.more (n := ei) HJ.out hbl.out HG.out hd HOW.out HAT.out
        unfold CommitPost
        rw [HCM.out]
        exact ⟨rfl, _, hz.1, HX.out.trans hz.2, HAT.out.imp id (fun e x hx => by rw [e] at hx; cases hx; exact Nat.le_trans HX.out.size hbl.out.size)⟩
theorem commit_call {b q p g : Nat} {v : Value} {J : JS} {D : DS} {w : World} (h : JD b q p g v J D w) (hD : D.Ok) (hll : -4611686018427387904 + 2001 ≤ D.left) (he : J.e ≤ 2000) (hJl : J.l.length ≤ 2000) (s : ByteArray) (hs : s.size ≤ 60000) :
    Calls Try.prog 11 #[.pointer (some ⟨q, 0, none⟩), .string s] w (CommitPost b q p g v J D s w) := by
  by_cases hd : J.down = true
  · refine (commit_down h hd s).mono fun e w' k => ?_
    have hc : J.commit D s = (9, J, D) := by unfold JS.commit; rw [if_pos hd]
    unfold CommitPost
    rw [hc]
    exact ⟨k.1, v, k.2.1, Ch.of_new k.2.2, .inl rfl⟩
  · have hd' : J.down = false := by simpa using hd
    by_cases hf : (D.secs.length : Int) - J.e < ((piecesL s).length : Int)
    · refine (commit_full PT h hD hd' he s (by omega) hf).mono fun e w' k => ?_
      have hc : J.commit D s = (6, J, D) := by unfold JS.commit; rw [if_neg hd, if_pos hf]
      unfold CommitPost
      rw [hc]
      exact ⟨k.1, v, k.2.1, Ch.of_new k.2.2, .inl rfl⟩
    · exact commit_write h hD hll hd' he hJl s hs hf
end Go.Proofs.Ytpnnnhdhmdildaa.Given
