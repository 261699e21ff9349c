/- The plain law of the printed reference Expand: it answers as squeeze.Expand does. -/
import Derived.Test.YtjiafbckfnglmaaPExpandMore
import Derived.Test.YtjiafbckfnglmaaPDigitRef
import Derived.Test.YtjiafbckfnglmaaQx4
namespace Go.Proofs.Ytjiafbckfnglmaa.B
open Go.RowKit Go.Proofs.Ytjiafbckfnglmaa.PW Go.Proofs.Ytjiafbckfnglmaa.Given Go.Proofs.Ytjiafbckfnglmaa.Q Go.Proofs.YtjiafbckfnglmaaW.PrintWords Go.Proofs.YtjiafbckfnglmaaW.PrintMore
def RexOk (o : Option (List Int)) (r : ByteArray × Bool) : Prop := r.2 = o.isSome ∧ ∀ l, o = some l → r.1 = strOfNums l
theorem rexNone : RexOk none (⟨#[]⟩, false) := ⟨rfl, fun _ h => by cases h⟩
theorem getD_take (l : List Int) (p : Nat) (h : p < l.length) : (l.drop p).take (p + 1 - p) = [l.getD p 0] := by
  rw [List.drop_eq_getElem_cons h, show p + 1 - p = 1 by omega, List.getD_eq_getElem?_getD, List.getElem?_eq_getElem h]
  rfl
theorem rrep_loop (s : ByteArray) (at_ size : Int) (b : Nat) (hb : 1 ≤ b) (n : Nat) (r : ByteArray × Bool) (d : Nat) : ∀ (i : Nat) (O : ByteArray), i + d = n → n ≤ 1000 → b ≤ O.size → O.size + d ≤ 1073741824 →
    (∀ O', bytesOf O' = rep d b (bytesOf O) → Ev (fun k => ammoniteref1_Expand.l1 k s at_ size O') r) → Ev (fun k => ammoniteref1_Expand.l2 k s at_ size O b n i) r := by
  induction d with
  | zero =>
    intro i O hi hn hbo hl h
    refine Ev.step (fun k => ammoniteref1_Expand.l2.eq_2 s at_ size O b n i k) ?_
    exact Ev.nn (by omega) (h O rfl)
  | succ d ih =>
    intro i O hi hn hbo hl h
    refine Ev.step (fun k => ammoniteref1_Expand.l2.eq_2 s at_ size O b n i k) ?_
    have e : (O.size : Int) - b = ((O.size - b : Nat) : Int) := by omega
    rw [wsub (by omega) (by omega), wsucc (by omega), e, wsucc (by omega)]
    have cs : (cutS O (O.size - b) (O.size - b + 1)).size = 1 := by rw [size_cut (by omega)]; omega
    refine Ev.ip (by omega) (Ev.ip (by omega) (Ev.ip (by omega) (Ev.ip (by omega) (Ev.ip (by rw [Int.toNat_natCast, Int.toNat_natCast, cs]; omega) ?_))))
    rw [Int.toNat_natCast, Int.toNat_natCast]
    have cb : bytesOf (catS O (cutS O (O.size - b) (O.size - b + 1))) = bytesOf O ++ [(bytesOf O).getD ((bytesOf O).length - b) 0] := by
      rw [bytesOf_cat, bytesOf_cut, size_len, getD_take _ _ (by rw [size_len]; omega)]
    refine ih (i + 1) _ (by omega) hn (by rw [size_cat]; omega) (by rw [size_cat, cs]; omega) ?_
    intro O' hO'
    rw [cb] at hO'
    exact h O' hO'
theorem rw3 {i : Nat} {c : Int} (h0 : 0 ≤ c) (h1 : c < 256) (h : i ≤ 4611686018427387904) : wrap64 (wrap64 ((i : Int) + wrap64 c) + 1) = ((i + (c.toNat + 1) : Nat) : Int) := by
  rw [w64 (n := c) (by omega) (by omega), w64 (n := (i : Int) + c) (by omega) (by omega), w64 (by omega) (by omega)]; omega
theorem rwn {c : Int} (h0 : 0 ≤ c) (h1 : c < 256) : wrap64 (wrap64 (wrap64 c - 128) + 3) = c - 125 := by
  rw [w64 (n := c) (by omega) (by omega), w64 (n := c - 128) (by omega) (by omega), w64 (by omega) (by omega)]; omega
theorem rex_loop (s : ByteArray) (hs : s.size ≤ 4611686018427387904) (size : Nat) (hz : size ≤ 1073741824) (f : Nat) : ∀ (i : Nat) (l : List Int) (O : ByteArray), (bytesOf s).drop i = l → i ≤ s.size → l.length ≤ f → O.size ≤ size →
    ∃ r, Ev (fun k => ammoniteref1_Expand.l1 k s i size O) r ∧ RexOk (exGo size f l (bytesOf O)) r := by
  induction f with
  | zero =>
    intro i l O hl h1 h2 h3
    have : l = [] := List.eq_nil_of_length_eq_zero (by omega)
    subst this
    have hi : i = s.size := by
      have := congrArg List.length hl
      rw [List.length_drop, size_len, List.length_nil] at this
      omega
    refine ⟨(O, ((O.size : Int) == (size : Int))), Ev.step (fun k => ammoniteref1_Expand.l1.eq_2 s i size O k) (Ev.nn (by omega) (Ev.now _)), ?_⟩
    unfold exGo
    rw [size_len]
    by_cases e : O.size = size
    · rw [if_pos e]; exact ⟨by simp [e], fun l h => by injection h with h; rw [← h, strOfNums_bytesOf]⟩
    · rw [if_neg e]; exact ⟨by simp; omega, fun l h => by cases h⟩
  | succ f ih =>
    intro i l O hl h1 h2 h3
    have hlen : s.size - i = l.length := by
      have := congrArg List.length hl
      rw [List.length_drop, size_len] at this
      omega
    cases l with
    | nil =>
      simp only [List.length_nil] at hlen
      refine ⟨(O, ((O.size : Int) == (size : Int))), Ev.step (fun k => ammoniteref1_Expand.l1.eq_2 s i size O k) (Ev.nn (by omega) (Ev.now _)), ?_⟩
      unfold exGo
      rw [size_len]
      by_cases e : O.size = size
      · rw [if_pos e]; exact ⟨by simp [e], fun l h => by injection h with h; rw [← h, strOfNums_bytesOf]⟩
      · rw [if_neg e]; exact ⟨by simp; omega, fun l h => by cases h⟩
    | cons c r =>
      simp only [List.length_cons] at hlen h2
      have hi : i < s.size := by omega
      rw [drop_cons s i hi] at hl
      injection hl with hc hl
      have hb := bt_range s i
      rw [hc] at hb
      have wc : wrap64 c = c := w64 (by omega) (by omega)
      have hstep := fun k => ammoniteref1_Expand.l1.eq_2 s i size O k
      rw [hc, wsucc (by omega), wbyte hb.1 (by omega), rw3 hb.1 (by omega) (by omega), wsub (by omega) (by omega), wsub (by omega) (by omega), rwn hb.1 (by omega)] at hstep
      have hlr : (s.size : Int) - ((i + 1 : Nat) : Int) = (r.length : Int) := by omega
      rw [hlr, wc] at hstep
      unfold exGo
      by_cases a : c < 128
      · rw [if_pos a]
        by_cases b1 : r.length < c.toNat + 1
        · rw [if_pos (Or.inl b1)]
          exact ⟨_, Ev.step hstep (Ev.ip (by omega) (Ev.ip (by omega) (Ev.ip (by omega) (Ev.ip (by omega) (Ev.now _))))), rexNone⟩
        · by_cases b2 : size < O.size + (c.toNat + 1)
          · rw [if_pos (Or.inr (by rw [size_len]; exact b2))]
            exact ⟨_, Ev.step hstep (Ev.ip (by omega) (Ev.ip (by omega) (Ev.ip (by omega) (Ev.nn (by omega) (Ev.ip (by omega) (Ev.now _)))))), rexNone⟩
          · rw [if_neg (by rw [size_len]; omega)]
            have cs : (cutS s (i + 1) (i + 1 + (c.toNat + 1))).size = c.toNat + 1 := by rw [size_cut (by omega)]; omega
            have cb : bytesOf (catS O (cutS s (i + 1) (i + 1 + (c.toNat + 1)))) = bytesOf O ++ r.take (c.toNat + 1) := by
              rw [bytesOf_cat, bytesOf_cut, hl]
              congr 2
              omega
            obtain ⟨q, e, ok⟩ := ih (i + 1 + (c.toNat + 1)) (r.drop (c.toNat + 1)) (catS O (cutS s (i + 1) (i + 1 + (c.toNat + 1)))) (by rw [← hl, List.drop_drop]) (by omega) (by rw [List.length_drop]; omega) (by rw [size_cat, cs]; omega)
            rw [cb] at ok
            refine ⟨q, Ev.step hstep ?_, ok⟩
            refine Ev.ip (by omega) (Ev.ip (by omega) (Ev.ip (by omega) (Ev.nn (by omega) (Ev.nn (by omega) (Ev.ip (by omega) (Ev.ip (by omega) (Ev.ip (by omega) (Ev.ip (by rw [Int.toNat_natCast, Int.toNat_natCast, cs]; omega) ?_))))))))
            rw [Int.toNat_natCast, Int.toNat_natCast]
            exact e
      · rw [if_neg a]
        match r, hlen, h2, hl with
        | [], hlen, h2, hl => exact ⟨_, Ev.step hstep (Ev.ip (by omega) (Ev.ip (by omega) (Ev.nn a (Ev.ip (by simp) (Ev.now _))))), rexNone⟩
        | [_], hlen, h2, hl => exact ⟨_, Ev.step hstep (Ev.ip (by omega) (Ev.ip (by omega) (Ev.nn a (Ev.ip (by simp) (Ev.now _))))), rexNone⟩
        | x :: y :: r', hlen, h2, hl =>
          simp only [List.length_cons] at hlen h2
          dsimp only
          rw [drop_cons s (i + 1) (by omega)] at hl
          injection hl with hx hl
          rw [drop_cons s (i + 1 + 1) (by omega)] at hl
          injection hl with hy hl
          have rx := bt_range s ((i + 1 : Nat) : Int)
          have ry := bt_range s ((i + 1 + 1 : Nat) : Int)
          rw [hx] at rx
          rw [hy] at ry
          rw [wsucc (i := i + 1) (by omega)] at hstep
          rw [wadd (i := i + 1) (j := 2) (x := 2) rfl (by omega)] at hstep
          rw [hx, hy] at hstep
          rw [or256 rx.1 (by omega) ry.1 (by omega)] at hstep
          have jt : ∀ (a b c d e : _), Ev (fun k => ammoniteref1_Expand.j4 k s a b c d e true) (⟨#[]⟩, false) := fun a b c d e => Ev.step (fun k => ammoniteref1_Expand.j4.eq_2 s a b c d e true k) (Ev.ip rfl (Ev.now _))
          have ea : ¬ ((((x :: y :: r').length : Nat) : Int) < 2) := by simp only [List.length_cons]; omega
          by_cases b2 : x * 256 + y < 1
          · rw [if_pos (Or.inr (Or.inl b2))]
            exact ⟨_, Ev.step hstep (Ev.ip (by omega) (Ev.ip (by omega) (Ev.nn a (Ev.nn ea (Ev.ip (by omega) (Ev.ip (by omega) (Ev.ip (by omega) (Ev.ip (by omega) (Ev.ip b2 (jt _ _ _ _ _)))))))))), rexNone⟩
          · by_cases b3 : (O.size : Int) < x * 256 + y
            · rw [if_pos (Or.inr (Or.inr (by rw [size_len]; exact b3)))]
              exact ⟨_, Ev.step hstep (Ev.ip (by omega) (Ev.ip (by omega) (Ev.nn a (Ev.nn ea (Ev.ip (by omega) (Ev.ip (by omega) (Ev.ip (by omega) (Ev.ip (by omega) (Ev.nn b2 (Ev.ip (by omega) (jt _ _ _ _ _))))))))))), rexNone⟩
            · have head : ∀ {q}, Ev (fun k => ammoniteref1_Expand.j4 k s ((i + 1 + 1 + 1 : Nat) : Int) size O (c - 125) (x * 256 + y) (decide (c - 125 > (size : Int) - (O.size : Int)))) q → Ev (fun k => ammoniteref1_Expand.l1 k s i size O) q := fun {q} h =>
                Ev.step hstep (Ev.ip (by omega) (Ev.ip (by omega) (Ev.nn a (Ev.nn ea (Ev.ip (by omega) (Ev.ip (by omega) (Ev.ip (by omega) (Ev.ip (by omega) (Ev.nn b2 (Ev.nn (by omega) h))))))))))
              by_cases b1 : size < O.size + (c.toNat - 125)
              · rw [if_pos (Or.inl (by rw [size_len]; exact b1))]
                exact ⟨_, head (by rw [decide_eq_true (by omega)]; exact jt _ _ _ _ _), rexNone⟩
              · rw [if_neg (by rw [size_len]; omega)]
                obtain ⟨w, hw⟩ : ∃ w : Nat, x * 256 + y = w := ⟨(x * 256 + y).toNat, by omega⟩
                obtain ⟨O', hO'⟩ : ∃ O', bytesOf O' = rep (c.toNat - 125) w (bytesOf O) := ⟨strOfNums (rep (c.toNat - 125) w (bytesOf O)), by
                  refine bytesOf_nums ?_
                  have : ∀ (d : Nat) (o : List Int), (∀ x ∈ o, 0 ≤ x ∧ x < 256) → ∀ x ∈ rep d w o, 0 ≤ x ∧ x < 256 := by
                    intro d
                    induction d with
                    | zero => intro o h; exact h
                    | succ d ih2 =>
                      intro o h
                      refine ih2 _ ?_
                      intro z hz
                      rcases List.mem_append.1 hz with hz | hz
                      · exact h z hz
                      · rw [List.mem_singleton] at hz
                        rw [hz, List.getD_eq_getElem?_getD]
                        cases hg : o[o.length - w]? with
                        | none => simp
                        | some v => exact h v (List.mem_of_getElem? hg)
                  exact this _ _ (byte_lt O)⟩
                have zO : O'.size = O.size + (c.toNat - 125) := by rw [← size_len, hO', rep_len, size_len]
                obtain ⟨q, e, ok⟩ := ih (i + 1 + 1 + 1) r' O' hl (by omega) (by omega) (by omega)
                rw [hO'] at ok
                refine ⟨q, head ?_, by rw [hw, Int.toNat_natCast]; exact ok⟩
                rw [decide_eq_false (by omega)]
                refine Ev.step (fun k => ammoniteref1_Expand.j4.eq_2 s _ _ O _ _ false k) (Ev.nn (by decide) ?_)
                have ec : (c - 125 : Int) = ((c.toNat - 125 : Nat) : Int) := by omega
                rw [ec, hw]
                refine rrep_loop s _ size w (by omega) (c.toNat - 125) q (c.toNat - 125) 0 O (by omega) (by omega) (by omega) (by omega) ?_
                intro O2 h2'
                rw [show O2 = O' from bytesOf_inj (by rw [h2', hO'])]
                exact e
theorem takeWhile_stop : ∀ (l : List Int), (l.takeWhile (· != 59)).length < l.length → l.getD (l.takeWhile (· != 59)).length 0 = 59
  | [], h => by simp at h
  | a :: l, h => by
    by_cases e : a = 59
    · subst e; rfl
    · have tw : (a :: l).takeWhile (· != 59) = a :: l.takeWhile (· != 59) := by rw [List.takeWhile_cons, if_pos (by simpa using e)]
      rw [tw] at h ⊢
      simp only [List.length_cons] at h
      have := takeWhile_stop l (by omega)
      simpa using this
theorem takeWhile_get : ∀ (l : List Int) (j : Nat), j < (l.takeWhile (· != 59)).length → l.getD j 0 ≠ 59
  | [], _, h => by simp at h
  | a :: l, j, h => by
    by_cases e : a = 59
    · subst e
      have tw : ((59 : Int) :: l).takeWhile (· != 59) = [] := by rw [List.takeWhile_cons, if_neg (by simp)]
      rw [tw] at h
      simp at h
    · have tw : (a :: l).takeWhile (· != 59) = a :: l.takeWhile (· != 59) := by rw [List.takeWhile_cons, if_pos (by simpa using e)]
      rw [tw] at h
      simp only [List.length_cons] at h
      cases j with
      | zero => simpa using e
      | succ j =>
        have := takeWhile_get l j (by omega)
        simpa using this
/-- The search for ';'. -/
theorem rex_find (s : ByteArray) (hs : s.size ≤ 4611686018427387904) (most : Int) (r : ByteArray × Bool) (d : Nat) : ∀ (i : Nat), i + d = ((bytesOf s).takeWhile (· != 59)).length → Ev (fun k => ammoniteref1_Expand.j1 k s most (((bytesOf s).takeWhile (· != 59)).length : Int)) r → Ev (fun k => ammoniteref1_Expand.l0 k s most i) r := by
  have hle : ((bytesOf s).takeWhile (· != 59)).length ≤ s.size := by rw [← size_len]; exact (List.takeWhile_prefix _).length_le
  have hget : ∀ j, j < ((bytesOf s).takeWhile (· != 59)).length → bt s (j : Int) ≠ 59 := by
    intro j hj
    rw [bt_nat]
    exact takeWhile_get (bytesOf s) j hj
  induction d with
  | zero =>
    intro i hi h
    have ei : i = ((bytesOf s).takeWhile (· != 59)).length := by omega
    refine Ev.step (fun k => ammoniteref1_Expand.l0.eq_2 s most i k) ?_
    rw [ei]
    by_cases g : ((bytesOf s).takeWhile (· != 59)).length < s.size
    · refine Ev.ip (by omega) (Ev.ip (by omega) (Ev.ip ?_ h))
      rw [bt_nat]
      exact takeWhile_stop (bytesOf s) (by rw [size_len]; exact g)
    · exact Ev.nn (by omega) h
  | succ d ih =>
    intro i hi h
    refine Ev.step (fun k => ammoniteref1_Expand.l0.eq_2 s most i k) ?_
    refine Ev.ip (by omega) (Ev.ip (by omega) (Ev.nn (hget i (by omega)) ?_))
    rw [wsucc (by omega)]
    exact ih (i + 1) (by omega) h
theorem rexpand_ev (s : ByteArray) (hs : s.size ≤ 4611686018427387904) (most : Int) : ∃ r, Ev (fun k => ammoniteref1_Expand.f k s most) r ∧ RexOk (exS (bytesOf s) most) r := by
  unfold exS
  have hle : ((bytesOf s).takeWhile (· != 59)).length ≤ s.size := by rw [← size_len]; exact (List.takeWhile_prefix _).length_le
  by_cases h : 59 ∈ bytesOf s
  · rw [if_pos h]
    have lt := takeWhile_lt h
    have tk := take_take_while (bytesOf s) (· != 59)
    rw [size_len] at lt
    have find := fun r => rex_find s hs most r _ 0 (by omega : 0 + ((bytesOf s).takeWhile (· != 59)).length = _)
    generalize hw : (bytesOf s).takeWhile (· != 59) = w at lt tk find
    have cs : (cutS s 0 w.length).size = w.length := by rw [size_cut (by omega)]; omega
    have cb : bytesOf (cutS s 0 w.length) = w := by rw [bytesOf_cut, List.drop_zero, Nat.sub_zero, tk]
    have hd := rreadDec_ev (cutS s 0 w.length) (by omega)
    rw [cb] at hd
    have head : ∀ {q}, Ev (fun k => if rrdDec w < 0 then ammoniteref1_Expand.j2 k s (w.length : Int) (rrdDec w) true else ammoniteref1_Expand.j2 k s (w.length : Int) (rrdDec w) (decide (rrdDec w > most))) q → Ev (fun k => ammoniteref1_Expand.f k s most) q := fun {q} hq => find q (Ev.step (fun k => ammoniteref1_Expand.j1.eq_2 s most _ k) (Ev.nn (by omega) (Ev.ip (by omega) (Ev.ip (by omega) (by rw [Int.toNat_natCast]; exact Ev.bind hd hq)))))
    have jt : ∀ (a b : _), Ev (fun k => ammoniteref1_Expand.j2 k s a b true) (⟨#[]⟩, false) := fun a b => Ev.step (fun k => ammoniteref1_Expand.j2.eq_2 s a b true k) (Ev.ip rfl (Ev.now _))
    unfold rrdDec at head
    cases hr : rdDec w with
    | none =>
      rw [hr] at head
      exact ⟨_, head (Ev.ip (by decide) (jt _ _)), rexNone⟩
    | some n =>
      rw [hr] at head
      have hn := rdDec_le hr
      dsimp only at head ⊢
      by_cases g : (n : Int) > most
      · rw [if_pos g]; exact ⟨_, head (Ev.nn (by omega) (by rw [decide_eq_true g]; exact jt _ _)), rexNone⟩
      · rw [if_neg g]
        obtain ⟨q, e, ok⟩ := rex_loop s hs n hn _ (w.length + 1) _ ⟨#[]⟩ rfl (by omega) (Nat.le_refl _) (Nat.zero_le _)
        refine ⟨q, head (Ev.nn (by omega) ?_), ok⟩
        rw [decide_eq_false g]
        refine Ev.step (fun k => ammoniteref1_Expand.j2.eq_2 s _ _ false k) (Ev.nn (by decide) ?_)
        rw [wsucc (by omega)]
        exact e
  · rw [if_neg h]
    have hw : (bytesOf s).takeWhile (· != 59) = bytesOf s := by
      have : ∀ l : List Int, 59 ∉ l → l.takeWhile (· != 59) = l := by
        intro l
        induction l with
        | nil => intro _; rfl
        | cons a l ih =>
          intro hl
          have ha : a ≠ 59 := fun e => hl (by rw [e]; exact List.mem_cons_self ..)
          rw [List.takeWhile_cons, if_pos (by simpa using ha), ih (fun e => hl (List.mem_cons_of_mem _ e))]
      exact this _ h
    refine ⟨_, rex_find s hs most _ _ 0 (by omega : 0 + ((bytesOf s).takeWhile (· != 59)).length = _) (Ev.step (fun k => ammoniteref1_Expand.j1.eq_2 s most _ k) (Ev.ip (by rw [hw, size_len]; omega) (Ev.now _))), rexNone⟩
end Go.Proofs.Ytjiafbckfnglmaa.B
