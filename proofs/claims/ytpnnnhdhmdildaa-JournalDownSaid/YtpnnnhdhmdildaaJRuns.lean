/- Chapter 6's closed sentence: one transaction, one that is torn, opened anew. No condition. -/
import Derived.Test.YtpnnnhdhmdildaaJn10
set_option linter.unusedVariables false
set_option linter.unusedSimpArgs false
namespace Go.Proofs.Ytpnnnhdhmdildaa.Given
open Go.RowKit Go.Proofs.YtpnnnhdhmdildaaW.PrintWords Go.Proofs.Ytpnnnhdhmdildaa.J Go.Proofs.Ytpnnnhdhmdildaa.RF
set_option maxRecDepth 100000 in
set_option maxHeartbeats 2000000 in
theorem runs_walk (w : World) : Calls Try.prog 3 #[] w fun e w' => e = .returned (.bool true) ∧ Below w.heap.size w w' := by
  have n1 : np ⟨#[104, 101, 108, 108, 111]⟩ = 1 := np_short (by decide)
  have n2 : np ⟨#[97, 103, 97, 105, 110]⟩ = 1 := np_short (by decide)
  have n3 : np ⟨#[]⟩ = 1 := np_short (by decide)
  have hN := newD_ok 9 (by decide) (by decide)
  have hL : (newD 9).secs.length = 9 := by simp [newD]
  have hG := newD_good 9
  obtain ⟨q1, hc1, hl1, hg1, ho1⟩ := commit_ok (J := ⟨[], 0, false⟩) hG hN rfl rfl ⟨#[104, 101, 108, 108, 111]⟩ (by rw [n1, hL]; decide) (.inl rfl) (by rw [n1]; decide)
  rw [n1] at hc1 hg1 ho1
  have ho1' : DS.Ok { secs := q1, armed := true, left := 0, keep := 31, down := false } := ok_of ho1 _ _ _ _ (by decide) (by decide) (by decide) (by decide)
  obtain ⟨q2, hc2, hl2, ho2, hg2⟩ := commit_tears (J := ⟨[⟨#[104, 101, 108, 108, 111]⟩], 1, false⟩) (D := { secs := q1, armed := true, left := 0, keep := 31, down := false }) (m := 0) hg1 ho1' rfl rfl ⟨#[97, 103, 97, 105, 110]⟩ (by rw [n2]; show 1 + 1 ≤ q1.length; omega) rfl rfl (by rw [n2]; decide)
  rw [if_neg (by rintro ⟨_, h⟩; exact absurd (show (31 : Int) = 32 from h) (by decide))] at hg2
  have ho2' : DS.Ok { secs := q2, armed := false, left := 0, keep := 31, down := false } := ok_of ho2 _ _ _ _ (by decide) (by decide) (by decide) (by decide)
  have b1 := Aside0.mk (show -4611686018427387904 + 2001 ≤ (newD 9).left by decide)
  have b2 := Aside0.mk (show (JS.mk [] 0 false).e ≤ 2000 by decide)
  have b3 := Aside0.mk (show (JS.mk [] 0 false).l.length ≤ 2000 by decide)
  have b4 := Aside0.mk (show -4611686018427387904 + 2001 ≤ ({ secs := q1, armed := true, left := 0, keep := 31, down := false } : DS).left by show (-4611686018427387904 + 2001 : Int) ≤ 0; decide)
  have b5 := Aside0.mk (show (JS.mk [⟨#[104, 101, 108, 108, 111]⟩] 1 false).e ≤ 2000 by decide)
  have b6 := Aside0.mk (show (JS.mk [⟨#[104, 101, 108, 108, 111]⟩] 1 false).l.length ≤ 2000 by decide)
  have C1 := Aside0.mk hc1
  have C2 := Aside0.mk hc2
  have N1 := Aside0.mk n1
  have N3 := Aside0.mk n3
  have O1 := Aside0.mk ho1'
  have O2 := Aside0.mk ho2'
  have G2 := Aside0.mk hg2
  clear hc1 hc2 hl1 hl2 hg1 hL ho1 ho1' ho2 ho2' hg2 n1 n2 n3
  go_enter Try.func3, Try.ntmps3
  go_wp2_with (first
    | (go_at_call 9; (with_reducible refine (new_l 9 9 _ (by decide)).mono ?_); rintro e w1 ⟨p, g, rfl, h⟩; have HA := Aside0.mk h; clear h)
    | (go_at_call 10; (with_reducible refine (open_l HA.out hN hG).mono ?_); rintro e w2 ⟨q, v, rfl, h, _, _, _⟩; have HB := Aside0.mk h; clear h HA)
    | (go_at_call 11; (with_reducible refine (commit_l HB.out hN b1.out b2.out b3.out ⟨#[104, 101, 108, 108, 111]⟩ (by decide) C1.out).mono ?_); rintro e w3 ⟨rfl, v1, h, _, _⟩; have HC := Aside0.mk h; clear h HB)
    | (go_at_call 12; (with_reducible refine (arm_l HC.out 0 31).mono ?_); rintro e w4 ⟨rfl, h, _⟩; have HD := Aside0.mk (show LJ w p g q v1 ⟨[⟨#[104, 101, 108, 108, 111]⟩], 1, false⟩ { secs := q1, armed := true, left := 0, keep := 31, down := false } w4 from h); clear h HC)
    | (go_at_call 11; (with_reducible refine (commit_l HD.out O1.out b4.out b5.out b6.out ⟨#[97, 103, 97, 105, 110]⟩ (by decide) C2.out).mono ?_); rintro e w5 ⟨rfl, v2, h, _, _⟩; have HE := Aside0.mk h; clear h HD)
    | (go_at_call 13; (with_reducible refine (revive_l HE.out).mono ?_); rintro e w6 ⟨rfl, h, _⟩; have HF := Aside0.mk (show LJ w p g q v2 ⟨[⟨#[104, 101, 108, 108, 111]⟩], 1, true⟩ { secs := q2, armed := false, left := 0, keep := 31, down := false } w6 from h); clear h HE)
    | (go_at_call 10; (with_reducible refine (open_l HF.out.ld O2.out G2.out).mono ?_); rintro e w7 ⟨q', v3, rfl, h, _, _, _⟩; have HG := Aside0.mk h; clear h HF)
    | (go_at_call 14; (with_reducible refine (len_l HG.out (n := 1) rfl).mono ?_); rintro e w8 ⟨rfl, h, _⟩; have HH := Aside0.mk h; clear h HG)
    | (go_at_call 15; (with_reducible refine (end_l HH.out (n := 1) rfl).mono ?_); rintro e w9 ⟨rfl, h, _⟩; have HI := Aside0.mk h; clear h HH)
    | (go_at_call 16; (with_reducible refine (pieces_l ⟨#[104, 101, 108, 108, 111]⟩ _ (by decide)).mono ?_); rintro e w10 ⟨a1, cap1, rfl, h⟩; have HJ := Aside0.mk (HI.out.step h.below); rw [N1.out]; clear h HI)
    | (go_at_call 16; (with_reducible refine (pieces_l ⟨#[]⟩ _ (by decide)).mono ?_); rintro e w11 ⟨a2, cap2, rfl, h⟩; have HK := Aside0.mk (HJ.out.step h.below); rw [N3.out]; clear h))
  go_ret
  exact ⟨rfl, HK.out.below⟩
end Go.Proofs.Ytpnnnhdhmdildaa.Given
