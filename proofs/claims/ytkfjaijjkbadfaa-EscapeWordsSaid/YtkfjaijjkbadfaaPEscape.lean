/- The plain laws of chapter 10's printed functions: Word and its reference, the references of Put and Read. -/
import Derived.Test.YtkfjaijjkbadfaaPBase
import Derived.Test.YtkfjaijjkbadfaaEsc1
import Derived.Test.YtkfjaijjkbadfaaQx1
import Derived.Test.YtkfjaijjkbadfaaQx2
import Derived.Test.YtkfjaijjkbadfaaQx1
import Derived.Test.YtkfjaijjkbadfaaQx1
set_option linter.unusedVariables false
set_option linter.unusedSimpArgs false
namespace Go.Proofs.Ytkfjaijjkbadfaa.B
open Go.RowKit Go.Proofs.Ytkfjaijjkbadfaa.PW Go.Proofs.Ytkfjaijjkbadfaa.Given Go.Proofs.Ytkfjaijjkbadfaa.Q Go.Proofs.YtkfjaijjkbadfaaW.PrintWords Go.Proofs.YtkfjaijjkbadfaaW.PrintMore
/-- May a byte stand in a name? -/
def nameC (c : Int) : Prop := 32 < c ∧ c ≤ 126 ∧ c ≠ 92
instance (c : Int) : Decidable (nameC c) := by unfold nameC; exact inferInstance
def wordB (l : List Int) : Bool := decide ((∀ c ∈ l, nameC c) ∧ 1 ≤ l.length ∧ l.length ≤ 12)
theorem wi {i n : Nat} (h : i < n) (hn : n ≤ 4611686018427387904) : wrap64 ((i : Int) + 1) = ((i + 1 : Nat) : Int) := by rw [w64 (by omega) (by omega)]; omega
theorem all_no {c : Int} {r : List Int} {p : Prop} [Decidable p] (h : ¬ nameC c) : decide ((∀ x ∈ c :: r, nameC x) ∧ p) = false := decide_eq_false fun g => h (g.1 c (List.mem_cons_self ..))
theorem all_yes {c : Int} {r : List Int} {p : Prop} [Decidable p] (h : nameC c) : decide ((∀ x ∈ c :: r, nameC x) ∧ p) = decide ((∀ x ∈ r, nameC x) ∧ p) := by
  refine decide_eq_decide.2 ⟨fun g => ⟨fun x hx => g.1 x (List.mem_cons_of_mem _ hx), g.2⟩, fun g => ⟨fun x hx => ?_, g.2⟩⟩
  cases hx with
  | head => exact h
  | tail _ hx => exact g.1 x hx
theorem word_loop (s : ByteArray) (hs : s.size ≤ 4611686018427387904) (l : List Int) : ∀ i : Nat, (bytesOf s).drop i = l → i ≤ s.size →
    Ev (fun k => escape_Word.l0 k s s.size i) (decide ((∀ c ∈ l, nameC c) ∧ 1 ≤ s.size ∧ s.size ≤ 12)) := by
  induction l with
  | nil =>
    intro i hl hi
    have he : i = s.size := by
      have := congrArg List.length hl
      rw [List.length_drop, size_len, List.length_nil] at this
      omega
    refine Ev.step (fun k => escape_Word.l0.eq_2 s s.size i k) (Ev.nn (by omega) ?_)
    by_cases z : s.toList = []
    · have h0 : s.size = 0 := by rw [toList_nil.1 z]; rfl
      exact Ev.ip z (Ev.eq (by rw [h0]; rfl) (Ev.now false))
    · have h0 : s.size ≠ 0 := fun e => z (toList_nil.2 (bytesOf_inj (List.eq_nil_of_length_eq_zero (by rw [size_len]; exact e))))
      refine Ev.nn z (Ev.eq ?_ (Ev.now _))
      refine decide_eq_decide.2 ⟨fun h => ⟨fun c hc => (by cases hc), by omega, by omega⟩, fun h => by omega⟩
  | cons c r ih =>
    intro i hl hi
    have hi' : i < s.size := by
      have := congrArg List.length hl
      rw [List.length_drop, size_len, List.length_cons] at this
      omega
    rw [drop_cons s i hi'] at hl
    injection hl with hc hr
    have key := ih (i + 1) hr (by omega)
    refine Ev.step (fun k => escape_Word.l0.eq_2 s s.size i k) (Ev.ip (by omega) (Ev.ip (by omega) (Ev.ip (by omega) ?_)))
    rw [hc, wi hi' hs]
    by_cases c1 : c ≤ 32
    · exact Ev.ip c1 (Ev.eq (all_no (fun h => by unfold nameC at h; omega)).symm (Ev.now false))
    by_cases c2 : c > 126
    · exact Ev.nn c1 (Ev.ip c2 (Ev.eq (all_no (fun h => by unfold nameC at h; omega)).symm (Ev.now false)))
    by_cases c3 : c = 92
    · exact Ev.nn c1 (Ev.nn c2 (Ev.ip c3 (Ev.eq (all_no (fun h => by unfold nameC at h; omega)).symm (Ev.now false))))
    · exact Ev.nn c1 (Ev.nn c2 (Ev.nn c3 (Ev.eq (all_yes (show nameC c from ⟨by omega, by omega, c3⟩)).symm key)))
theorem word_ev (s : ByteArray) (hs : s.size ≤ 4611686018427387904) : Ev (fun k => escape_Word.f k s) (wordB (bytesOf s)) := by
  unfold escape_Word.f wordB
  rw [size_len]
  exact word_loop s hs (bytesOf s) 0 rfl (Nat.zero_le _)
theorem rword_loop (s : ByteArray) (hs : s.size ≤ 4611686018427387904) (l : List Int) : ∀ i : Nat, (bytesOf s).drop i = l → i ≤ s.size →
    Ev (fun k => ammoniteref10_Word.l0 k s i) (decide ((∀ c ∈ l, nameC c) ∧ 1 ≤ s.size ∧ s.size ≤ 12)) := by
  induction l with
  | nil =>
    intro i hl hi
    have he : i = s.size := by
      have := congrArg List.length hl
      rw [List.length_drop, size_len, List.length_nil] at this
      omega
    refine Ev.step (fun k => ammoniteref10_Word.l0.eq_2 s i k) (Ev.nn (by omega) ?_)
    by_cases z : (s.size : Int) ≥ 1
    · refine Ev.ip z (Ev.eq ?_ (Ev.now _))
      refine decide_eq_decide.2 ⟨fun h => ⟨fun c hc => (by cases hc), by omega, by omega⟩, fun h => by omega⟩
    · exact Ev.nn z (Ev.eq (decide_eq_false (fun h => by omega)).symm (Ev.now false))
  | cons c r ih =>
    intro i hl hi
    have hi' : i < s.size := by
      have := congrArg List.length hl
      rw [List.length_drop, size_len, List.length_cons] at this
      omega
    rw [drop_cons s i hi'] at hl
    injection hl with hc hr
    have key := ih (i + 1) hr (by omega)
    refine Ev.step (fun k => ammoniteref10_Word.l0.eq_2 s i k) (Ev.ip (by omega) (Ev.ip (by omega) ?_))
    rw [hc, wi hi' hs]
    by_cases c1 : c ≤ 32
    · exact Ev.ip c1 (Ev.eq (all_no (fun h => by unfold nameC at h; omega)).symm (Ev.now false))
    by_cases c2 : c > 126
    · exact Ev.nn c1 (Ev.ip c2 (Ev.eq (all_no (fun h => by unfold nameC at h; omega)).symm (Ev.now false)))
    by_cases c3 : c = 92
    · exact Ev.nn c1 (Ev.nn c2 (Ev.ip c3 (Ev.eq (all_no (fun h => by unfold nameC at h; omega)).symm (Ev.now false))))
    · exact Ev.nn c1 (Ev.nn c2 (Ev.nn c3 (Ev.eq (all_yes (show nameC c from ⟨by omega, by omega, c3⟩)).symm key)))
theorem rword_ev (s : ByteArray) (hs : s.size ≤ 4611686018427387904) : Ev (fun k => ammoniteref10_Word.f k s) (wordB (bytesOf s)) := by
  unfold ammoniteref10_Word.f wordB
  rw [size_len]
  exact rword_loop s hs (bytesOf s) 0 rfl (Nat.zero_le _)
theorem cut1 {s : ByteArray} {i : Nat} (h : i < s.size) : bytesOf (cutS s i (i + 1)) = [bt s i] := by
  rw [bytesOf_cut, drop_cons s i h, show i + 1 - i = 1 by omega]
  rfl
theorem rescape_loop (s : ByteArray) (hs : s.size ≤ 1000000) (l : List Int) : ∀ (i : Nat) (o : ByteArray), (bytesOf s).drop i = l → i ≤ s.size → o.size ≤ 2 * i →
    ∃ r, Ev (fun k => ammoniteref10_Escape.l0 k s o i) r ∧ bytesOf r = bytesOf o ++ escL l := by
  induction l with
  | nil =>
    intro i o hl hi ho
    have he : i = s.size := by
      have := congrArg List.length hl
      rw [List.length_drop, size_len, List.length_nil] at this
      omega
    exact ⟨o, Ev.step (fun k => ammoniteref10_Escape.l0.eq_2 s o i k) (Ev.nn (by omega) (Ev.now _)), by simp [escL]⟩
  | cons c r ih =>
    intro i o hl hi ho
    have hi' : i < s.size := by
      have := congrArg List.length hl
      rw [List.length_drop, size_len, List.length_cons] at this
      omega
    have hd := drop_cons s i hi'
    rw [hd] at hl
    injection hl with hc hr
    have c1s : (cutS s i (i + 1)).size = 1 := by rw [← size_len, cut1 hi']; rfl
    have cb := cut1 hi'
    rw [hc] at cb
    have step := fun k => ammoniteref10_Escape.l0.eq_2 s o i k
    rw [hc, wi hi' (by omega)] at step
    have lit : ∀ b : ByteArray, b.size = 2 → bytesOf b = escC c → ∃ q, Ev (fun k => ammoniteref10_Escape.l0 k s (catS o b) ((i + 1 : Nat) : Int)) q ∧ bytesOf q = bytesOf o ++ escL (c :: r) := by
      intro b hb he
      obtain ⟨q, hq, hb'⟩ := ih (i + 1) (catS o b) hr (by omega) (by rw [size_cat, hb]; omega)
      exact ⟨q, hq, by rw [hb', bytesOf_cat, he]; simp [escL]⟩
    by_cases k1 : c = 32
    · obtain ⟨q, hq, he⟩ := lit ⟨#[92, 115]⟩ rfl (by rw [k1]; rfl)
      exact ⟨q, Ev.step step (Ev.ip (by omega) (Ev.ip (by omega) (Ev.ip k1 (Ev.ip (by omega) hq)))), he⟩
    by_cases k2 : c = 10
    · obtain ⟨q, hq, he⟩ := lit ⟨#[92, 110]⟩ rfl (by rw [k2]; rfl)
      exact ⟨q, Ev.step step (Ev.ip (by omega) (Ev.ip (by omega) (Ev.nn k1 (Ev.ip k2 (Ev.ip (by omega) hq))))), he⟩
    by_cases k3 : c = 92
    · obtain ⟨q, hq, he⟩ := lit ⟨#[92, 92]⟩ rfl (by rw [k3]; rfl)
      exact ⟨q, Ev.step step (Ev.ip (by omega) (Ev.ip (by omega) (Ev.nn k1 (Ev.nn k2 (Ev.ip k3 (Ev.ip (by omega) hq)))))), he⟩
    · obtain ⟨q, hq, he⟩ := ih (i + 1) (catS o (cutS s i (i + 1))) hr (by omega) (by rw [size_cat, c1s]; omega)
      refine ⟨q, Ev.step step (Ev.ip (by omega) (Ev.ip (by omega) (Ev.nn k1 (Ev.nn k2 (Ev.nn k3 (Ev.ip (by omega) (Ev.ip (by omega) ?_))))))), ?_⟩
      · rw [Int.toNat_natCast, Int.toNat_natCast]
        exact Ev.ip (by rw [c1s]; omega) hq
      · rw [he, bytesOf_cat, cb]
        have e : escC c = [c] := by unfold escC; rw [if_neg k1, if_neg k2, if_neg k3]
        simp [escL, e]
theorem rescape_ev (s : ByteArray) (hs : s.size ≤ 1000000) : ∃ r, Ev (fun k => ammoniteref10_Escape.f k s) r ∧ bytesOf r = escL (bytesOf s) := by
  obtain ⟨r, h1, h2⟩ := rescape_loop s hs (bytesOf s) 0 ⟨#[]⟩ rfl (Nat.zero_le _) (Nat.zero_le _)
  exact ⟨r, h1, h2⟩
/-- What the reference of Read hands back, with what was put out already. -/
def unO (o : ByteArray) : Option (List Int) → ByteArray × Bool
  | none => (⟨#[]⟩, false)
  | some l => (strOfNums (bytesOf o ++ l), true)
theorem unO_map (o p : ByteArray) (x : Int) (hp : bytesOf p = bytesOf o ++ [x]) (u : Option (List Int)) : unO p u = unO o (u.map (x :: ·)) := by
  cases u with
  | none => rfl
  | some l => simp [unO, hp]
theorem runesc_loop (s : ByteArray) (hs : s.size ≤ 1000000) (n : Nat) : ∀ (i : Nat) (o : ByteArray), s.size - i ≤ n → i ≤ s.size → o.size ≤ i →
    Ev (fun k => ammoniteref10_Unescape.l0 k s o i) (unO o (unL ((bytesOf s).drop i))) := by
  induction n with
  | zero =>
    intro i o hn hi ho
    rw [drop_nil s i (by omega)]
    refine Ev.step (fun k => ammoniteref10_Unescape.l0.eq_2 s o i k) (Ev.nn (by omega) (Ev.eq ?_ (Ev.now _)))
    simp [unO, unL, strOfNums_bytesOf]
  | succ n ih =>
    intro i o hn hi ho
    by_cases hi' : i < s.size
    · have hd := drop_cons s i hi'
      have cb := cut1 hi'
      have c1s : (cutS s i (i + 1)).size = 1 := by rw [← size_len, cb]; rfl
      rw [hd]
      have step := fun k => ammoniteref10_Unescape.l0.eq_2 s o i k
      have jstep := fun b k => ammoniteref10_Unescape.j1.eq_2 s o i (bt s i) b k
      rw [wi hi' (by omega)] at jstep
      generalize bt s i = c at *
      have bad : ∀ {q}, q = (⟨#[]⟩, false) → Ev (fun k => ammoniteref10_Unescape.j1 k s o i c true) q := fun e => Ev.step (jstep true) (Ev.ip rfl (Ev.eq e.symm (Ev.now _)))
      by_cases k1 : c = 32
      · refine Ev.step step (Ev.ip (by omega) (Ev.ip (by omega) (Ev.ip k1 (bad ?_))))
        rw [unL_lit _ (by omega), if_pos (Or.inl k1)]; rfl
      by_cases k2 : c = 10
      · refine Ev.step step (Ev.ip (by omega) (Ev.ip (by omega) (Ev.nn k1 ?_)))
        rw [show (c == 10) = true by simpa using k2]
        refine bad ?_
        rw [unL_lit _ (by omega), if_pos (Or.inr k2)]; rfl
      refine Ev.step step (Ev.ip (by omega) (Ev.ip (by omega) (Ev.nn k1 ?_)))
      rw [show (c == 10) = false by simpa using k2]
      refine Ev.step (jstep false) (Ev.nn (by decide) ?_)
      by_cases k3 : c = 92
      · refine Ev.ip k3 ?_
        subst k3
        by_cases h2 : i + 1 < s.size
        · have hd2 := drop_cons s (i + 1) h2
          rw [hd2, wi h2 (by omega)]
          generalize bt s ((i + 1 : Nat) : Int) = d
          refine Ev.nn (by omega) (Ev.ip (by omega) (Ev.ip (by omega) ?_))
          have lit : ∀ (b : ByteArray) (x : Int), bytesOf b = [x] → Ev (fun k => if o.size + 1 ≤ 9223372036854775807 then ammoniteref10_Unescape.l0 k s (catS o b) ((i + 1 + 1 : Nat) : Int) else none) (unO o ((unL ((bytesOf s).drop (i + 1 + 1))).map (x :: ·))) := by
            intro b x hb
            have bs : b.size = 1 := by rw [← size_len, hb]; rfl
            refine Ev.ip (by omega) ?_
            rw [← unO_map o (catS o b) x (by rw [bytesOf_cat, hb])]
            exact ih (i + 1 + 1) _ (by omega) (by omega) (by rw [size_cat, bs]; omega)
          by_cases d1 : d = 115
          · refine Ev.ip d1 (Ev.eq ?_ (lit ⟨#[32]⟩ 32 rfl)); subst d1; simp [unL]
          by_cases d2 : d = 110
          · refine Ev.nn d1 (Ev.ip d2 (Ev.eq ?_ (lit ⟨#[10]⟩ 10 rfl))); subst d2; simp [unL]
          by_cases d3 : d = 92
          · refine Ev.nn d1 (Ev.nn d2 (Ev.ip d3 (Ev.eq ?_ (lit ⟨#[92]⟩ 92 rfl)))); subst d3; simp [unL]
          · refine Ev.nn d1 (Ev.nn d2 (Ev.nn d3 (Ev.eq ?_ (Ev.now _)))); simp [unL, d1, d2, d3, unO]
        · rw [drop_nil s (i + 1) (by omega)]
          exact Ev.ip (by omega) (Ev.eq (by simp [unL, unO]) (Ev.now _))
      · refine Ev.nn k3 (Ev.ip (by omega) (Ev.ip (by omega) (Ev.ip (by omega) ?_)))
        rw [Int.toNat_natCast, Int.toNat_natCast]
        refine Ev.ip (by rw [c1s]; omega) ?_
        rw [unL_lit _ k3, if_neg (by omega), ← unO_map o (catS o (cutS s i (i + 1))) c (by rw [bytesOf_cat, cb])]
        exact ih (i + 1) _ (by omega) (by omega) (by rw [size_cat, c1s]; omega)
    · rw [drop_nil s i (by omega)]
      refine Ev.step (fun k => ammoniteref10_Unescape.l0.eq_2 s o i k) (Ev.nn (by omega) (Ev.eq ?_ (Ev.now _)))
      simp [unO, unL, strOfNums_bytesOf]
theorem runesc_ev (s : ByteArray) (hs : s.size ≤ 1000000) : Ev (fun k => ammoniteref10_Unescape.f k s) (unO ⟨#[]⟩ (unL (bytesOf s))) := by
  have := runesc_loop s hs s.size 0 ⟨#[]⟩ (by omega) (Nat.zero_le _) (Nat.zero_le _)
  rw [List.drop_zero] at this
  exact this
end Go.Proofs.Ytkfjaijjkbadfaa.B
