/- Behind an ErrDown a journal commits no more, even if its disk is up again; opened anew it does; what is too long changes nothing. For every input. No condition. -/
import Derived.Test.YtpnnnhdhmdildaaJText
import Derived.Test.YtpnnnhdhmdildaaJRuns
set_option linter.unusedVariables false
set_option linter.unusedSimpArgs false
namespace Go.Proofs.Ytpnnnhdhmdildaa.Given
open Go.RowKit Go.Proofs.YtpnnnhdhmdildaaW.PrintWords Go.Proofs.Ytpnnnhdhmdildaa.J Go.Proofs.Ytpnnnhdhmdildaa.RF
theorem nums_len (l : List Int) : (strOfNums l).size = l.length := by simp [strOfNums, ByteArray.size]
theorem conv300 (W : World) : (convert 37 9 (.slice (some ⟨W.heap.size, 0, none⟩) 300 300)).run Try.prog (W.alloc (.cells (madeCells #[.int .u8 0] 300) 5)) =
    .ok (.string (strOfNums (List.replicate 300 0))) (W.alloc (.cells (madeCells #[.int .u8 0] 300) 5)) := by
  refine run_convert_bytes_arg _ 37 5 Try.underlying37 Try.underlying5 W.heap.size 0 300 300 (List.replicate 300 0) (by rw [List.length_replicate]) (fun i hi => ?_) 9 Try.underlying9
  rw [Nat.zero_add]
  exact nums_cell (by rw [World.alloc_heap_new, made_nums]) i (by rw [List.length_replicate]; exact hi)
/-- A journal stays where another one on its disk turns. -/
theorem JAt.other {b q p g q' : Nat} {v v' : Value} {J : JS} {W W' : World} (h : JAt b q p v J W) (hc : Ch (JOwn q' p g v') W W') (hn : ∀ i, (i = q ∨ v.ownBlock = some i) → ¬ JOwn q' p g v' i) : JAt b q p v J W' :=
  h.ch hc (hn q (.inl rfl)) (fun x hx => hn x (.inr hx))
theorem apart_of {w : World} {p g q q' : Nat} {v v' : Value} {J : JS} {D : DS} {W : World} (h : LJ w p g q v J D W) (h1 : W.heap.size ≤ q') (h2 : ∀ x, v'.ownBlock = some x → W.heap.size ≤ x) : ∀ i, (i = q ∨ v.ownBlock = some i) → ¬ JOwn q' p g v' i := by
  intro i hi
  have hlt : i < W.heap.size ∧ i ≠ p ∧ i ≠ g := by
    rcases hi with rfl | e
    · exact ⟨h.jd.own i (.inl rfl), h.jd.qp, h.jd.qg⟩
    · exact ⟨h.jd.own i (.inr (.inr (.inr e))), (h.jd.vo i e).2⟩
  rintro (e | e | e | e)
  · omega
  · exact hlt.2.1 e
  · exact hlt.2.2 e
  · have := h2 i e; omega
set_option maxRecDepth 100000 in
set_option maxHeartbeats 4000000 in
theorem down_walk (n keep c : Int) (w : World) (hn : (Lit.int .i64 n).wf = true) (hk : (Lit.int .i64 keep).wf = true) (hc : (Lit.int .u8 c).wf = true) : Calls Try.prog 5 #[.int .i64 n, .int .i64 keep, .int .u8 c] w fun e w' => e = .returned (.bool true) ∧ Below w.heap.size w w' := by
  clear hn hk hc
  obtain ⟨inf, f1, f2, f3, f4⟩ : ∃ i, Try.prog.info? 5 = some i ∧ i.zero = some (.int .u8 0) ∧ i.size = 1 ∧ i.bytes = 1 := ⟨_, rfl, rfl, rfl, rfl⟩
  have F1 := Aside0.mk f1
  have F2 := Aside0.mk f2
  have F3 := Aside0.mk f3
  have F4 := Aside0.mk f4
  clear f1 f2 f3 f4
  have cv := conv300
  have ls : (strOfNums (List.replicate 300 0)).size = 300 := by rw [nums_len]; simp
  generalize strOfNums (List.replicate 300 0) = long at cv ls
  have nl : np long = 10 := by rw [np_eq long.size long (Nat.le_refl _), ls]; rfl
  have na : np ⟨#[97]⟩ = 1 := np_short (by decide)
  have nb : np ⟨#[98]⟩ = 1 := np_short (by decide)
  have hN := newD_ok 6 (by decide) (by decide)
  have hL : (newD 6).secs.length = 6 := by simp [newD]
  have hG := newD_good 6
  have c0 := commit_fulls (J := ⟨[], 0, false⟩) (D := newD 6) rfl long (by rw [nl, hL]; decide)
  obtain ⟨q1, hc1, hl1, hg1, ho1⟩ := commit_ok (J := ⟨[], 0, false⟩) hG hN rfl rfl ⟨#[97]⟩ (by rw [na, hL]; decide) (.inl rfl) (by rw [na]; decide)
  rw [na] at hc1 hg1 ho1
  have b1 := Aside0.mk (show -4611686018427387904 + 2001 ≤ (newD 6).left by decide)
  have b2 := Aside0.mk (show (JS.mk [] 0 false).e ≤ 2000 by decide)
  have b3 := Aside0.mk (show (JS.mk [] 0 false).l.length ≤ 2000 by decide)
  have b5 := Aside0.mk (show (JS.mk [⟨#[97]⟩] 1 false).e ≤ 2000 by decide)
  have b6 := Aside0.mk (show (JS.mk [⟨#[97]⟩] 1 false).l.length ≤ 2000 by decide)
  have b7 := Aside0.mk (show (JS.mk [⟨#[97]⟩] 1 true).e ≤ 2000 by decide)
  have b8 := Aside0.mk (show (JS.mk [⟨#[97]⟩] 1 true).l.length ≤ 2000 by decide)
  have LS := Aside0.mk (show long.size ≤ 60000 by omega)
  have C0 := Aside0.mk c0
  have C1 := Aside0.mk hc1
  have G1 := Aside0.mk hg1
  have O1 := Aside0.mk ho1
  have L1 := Aside0.mk (hl1.trans hL)
  have NB := Aside0.mk nb
  clear c0 hc1 hl1 hg1 hL ho1 na nb nl ls
  go_enter Try.func5, Try.ntmps5
  go_wp2_with (first
    | (go_at_call 9; (with_reducible refine (new_l 6 6 _ (by decide)).mono ?_); rintro e w1 ⟨p, g, rfl, h⟩; have HA := Aside0.mk h; clear h)
    | (go_at_call 10; (with_reducible refine (open_l HA.out hN hG).mono ?_); rintro e w2 ⟨q, v, rfl, h, _, _, _⟩; have HB := Aside0.mk h; clear h HA)
    | (go_at_call 17; (with_reducible refine (text_call _ _ _ _ _ _).mono ?_); rintro e w3 ⟨s, rfl, hs, hb⟩; have HC := Aside0.mk (HB.out.step hb); clear hb HB)
    | ((with_reducible refine gate_dst (N := 30) rfl ?_); refine make_row rfl (.const (.int .i64 300)) 37 5 rfl inf (.int .u8 0) Try.underlying37 F1.out F2.out F3.out 300 rfl (by rw [F4.out]; omega) (by omega) ?_; have HD := Aside0.mk (HC.out.step ((Below.refl _ w3).alloc (Nat.le_refl _) (.cells (madeCells #[.int .u8 0] 300) 5))); clear HC)
    | (go_at_call 11; (with_reducible refine (commit_l HD.out hN b1.out b2.out b3.out long LS.out C0.out).mono ?_); rintro e w4 ⟨rfl, v1, h, _, _⟩; have HE := Aside0.mk h; clear h HD)
    | (go_at_call 11; (with_reducible refine (commit_l HE.out hN b1.out b2.out b3.out ⟨#[97]⟩ (by decide) C1.out).mono ?_); rintro e w5 ⟨rfl, v2, h, _, _⟩; have HF := Aside0.mk h; clear h HE)
    | (go_at_call 14; (with_reducible refine (len_l HF.out (n := 1) rfl).mono ?_); rintro e w6 ⟨rfl, h, _⟩; have HG := Aside0.mk h; clear h HF)
    | (go_at_call 18; (with_reducible refine (within_call keep 0 31 _ (by decide) (by decide) (by decide)).mono ?_); rintro e w7 ⟨kk, rfl, r0, r1, hd⟩; have HH := Aside0.mk (HG.out.step hd.below); clear hd HG)
    | (go_at_call 12; (with_reducible refine (arm_l HH.out 0 kk).mono ?_); rintro e w8 ⟨rfl, h, _⟩; have HI := Aside0.mk (show LJ w p g q v2 ⟨[⟨#[97]⟩], 1, false⟩ { secs := q1, armed := true, left := 0, keep := kk, down := false } w8 by have e1 : max 0 (min kk 32) = kk := (by omega); rw [e1] at h; exact h); clear h HH))
  have ho2 : DS.Ok { secs := q1, armed := true, left := 0, keep := kk, down := false } := ok_of O1.out _ _ _ _ (by omega) (by omega) (by decide) (by decide)
  obtain ⟨q2, hc2, hl2, ho3, hg2⟩ := commit_tears (J := ⟨[⟨#[97]⟩], 1, false⟩) (D := { secs := q1, armed := true, left := 0, keep := kk, down := false }) (m := 0) G1.out ho2 rfl rfl ⟨#[98]⟩ (by rw [NB.out]; show 1 + 1 ≤ q1.length; have := L1.out; omega) rfl rfl (by rw [NB.out]; decide)
  rw [if_neg (by rintro ⟨_, h⟩; have : kk = 32 := h; omega)] at hg2
  have ho4 : DS.Ok { secs := q2, armed := false, left := 0, keep := kk, down := false } := ok_of ho3 _ _ _ _ (by omega) (by omega) (by decide) (by decide)
  have hl3 : q2.length = 6 := hl2.trans L1.out
  have hnp : np s ≤ 4 := by rw [np_eq s.size s (Nat.le_refl _)]; omega
  have hnp1 := np_pos s
  obtain ⟨q3, hc3, _, _, _⟩ := commit_ok (J := ⟨[⟨#[97]⟩], 1, false⟩) (D := { secs := q2, armed := false, left := 0, keep := kk, down := false }) hg2 ho4 rfl rfl s (by show 1 + np s ≤ q2.length; omega) (.inl rfl) (by show (-4611686018427387904 : Int) + (np s : Int) ≤ 0; omega)
  have C2 := Aside0.mk hc2
  have C3 := Aside0.mk hc3
  have G2 := Aside0.mk hg2
  have O2 := Aside0.mk ho2
  have O3 := Aside0.mk ho3
  have O4 := Aside0.mk ho4
  have d1 := Aside0.mk (commit_downs (J := ⟨[⟨#[97]⟩], 1, true⟩) (D := { secs := q2, armed := false, left := 0, keep := kk, down := true }) rfl ⟨#[99]⟩)
  have d2 := Aside0.mk (commit_downs (J := ⟨[⟨#[97]⟩], 1, true⟩) (D := { secs := q2, armed := false, left := 0, keep := kk, down := false }) rfl ⟨#[100]⟩)
  have e1 := Aside0.mk (show -4611686018427387904 + 2001 ≤ ({ secs := q1, armed := true, left := 0, keep := kk, down := false } : DS).left by show (-4611686018427387904 + 2001 : Int) ≤ 0; decide)
  have e2 := Aside0.mk (show -4611686018427387904 + 2001 ≤ ({ secs := q2, armed := false, left := 0, keep := kk, down := true } : DS).left by show (-4611686018427387904 + 2001 : Int) ≤ 0; decide)
  have e3 := Aside0.mk (show -4611686018427387904 + 2001 ≤ ({ secs := q2, armed := false, left := 0, keep := kk, down := false } : DS).left by show (-4611686018427387904 + 2001 : Int) ≤ 0; decide)
  have q9 : decide ((np s : Int) ≤ 5) = true := decide_eq_true (by omega)
  obtain ⟨m, hm⟩ : ∃ m, np s = m := ⟨_, rfl⟩
  rw [hm] at q9
  have HM := Aside0.mk hm
  clear hc2 hl2 ho3 hg2 ho4 hl3 hnp hnp1 hc3 ho2 hm
  go_wp2_with (first
    | (go_at_call 11; (with_reducible refine (commit_l HI.out O2.out e1.out b5.out b6.out ⟨#[98]⟩ (by decide) C2.out).mono ?_); rintro e w9 ⟨rfl, v3, h, _, _⟩; have HJ := Aside0.mk h; clear h HI)
    | (go_at_call 11; (with_reducible refine (commit_l HJ.out O3.out e2.out b7.out b8.out ⟨#[99]⟩ (by decide) d1.out).mono ?_); rintro e w10 ⟨rfl, v4, h, _, _⟩; have HK := Aside0.mk h; clear h HJ)
    | (go_at_call 13; (with_reducible refine (revive_l HK.out).mono ?_); rintro e w11 ⟨rfl, h, _⟩; have HL := Aside0.mk (show LJ w p g q v4 ⟨[⟨#[97]⟩], 1, true⟩ { secs := q2, armed := false, left := 0, keep := kk, down := false } w11 from h); clear h HK)
    | (go_at_call 11; (with_reducible refine (commit_l HL.out O4.out e3.out b7.out b8.out ⟨#[100]⟩ (by decide) d2.out).mono ?_); rintro e w12 ⟨rfl, v5, h, _, _⟩; have HP := Aside0.mk h; clear h HL)
    | (go_at_call 10; (with_reducible refine (open_l HP.out.ld O4.out G2.out).mono ?_); rintro e w13 ⟨q', v6, rfl, h, hb, h1, h2⟩; have HQ := Aside0.mk h; have NE := Aside0.mk (apart_of HP.out h1 h2); have JA := Aside0.mk (HP.out.jd.jour.step hb); clear h hb h1 h2 HP)
    | (go_at_call 14; (with_reducible refine (len_l HQ.out (n := 1) rfl).mono ?_); rintro e w14 ⟨rfl, h, hb⟩; have HR := Aside0.mk h; have JB := Aside0.mk (JA.out.step hb); clear h hb HQ JA)
    | (go_at_call 11; (with_reducible refine (commit_l HR.out O4.out e3.out b5.out b6.out s (by omega) C3.out).mono ?_); rintro e w15 ⟨rfl, v7, h, hch, _⟩; have HS := Aside0.mk h; have JC := Aside0.mk (JB.out.other hch NE.out); clear h hch HR JB)
    | (go_at_call 16; (with_reducible refine (pieces_l s _ (by omega)).mono ?_); rintro e w16 ⟨a1, cap1, rfl, h⟩; rw [HM.out]; have HT := Aside0.mk (HS.out.step h.below); have JD1 := Aside0.mk (JC.out.step h.below); clear h HS JC)
    | (go_at_call 14; (with_reducible refine (len_call JD1.out).mono ?_); rintro e w17 ⟨rfl, h⟩; have HU := Aside0.mk (HT.out.step h.below); clear h HT)
    | (go_at_call 3; (with_reducible refine (runs_walk _).mono ?_); rintro e w18 ⟨rfl, hb⟩; have HV := Aside0.mk (HU.out.step hb); clear hb HU))
  go_ret
  exact ⟨rfl, HV.out.below⟩
end Go.Proofs.Ytpnnnhdhmdildaa.Given
