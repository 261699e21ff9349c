/- Tags: as cards, out of cards, which may be, which are alike. -/
import Derived.Test.YtaoadbkoambjbaaQ1
import Derived.Test.YtaoadbkoambjbaaQ2
set_option linter.unusedVariables false
set_option linter.unusedSimpArgs false
set_option maxRecDepth 10000
namespace Go.Proofs.Ytaoadbkoambjbaa.Ab
open Go Go.RowKit Go.Proofs.Ytaoadbkoambjbaa.Given
abbrev TTag : DTy := .prod (.int .u8) (.prod .str (.prod .str (.prod .str .unit)))
abbrev DTag : Type := Int × ((List UInt8) × ((List UInt8) × ((List UInt8) × Unit)))
def tagArgs (t : DTag) : List (List UInt8) := [UInt8.ofNat t.1.toNat :: t.2.1, t.2.2.1] ++ (if t.2.2.2.1 = [] then [] else [escS t.2.2.2.1])
def tagCard (t : DTag) : DCard := (84, tagArgs t, ())
theorem tagArgs_nil {t : DTag} (h : t.2.2.2.1 = []) : tagArgs t = [UInt8.ofNat t.1.toNat :: t.2.1, t.2.2.1] := by unfold tagArgs; rw [if_pos h]; rfl
theorem tagArgs_ne {t : DTag} (h : ¬ t.2.2.2.1 = []) : tagArgs t = [UInt8.ofNat t.1.toNat :: t.2.1, t.2.2.1] ++ [escS t.2.2.2.1] := by unfold tagArgs; rw [if_neg h]
theorem cards_loop3 {K : Nat} (hK : 1000000 ≤ K) (l : List DTag) (hl : l.length < 1000000) (hb : ∀ t ∈ l, t.2.1.length < 1000000 ∧ t.2.2.2.1.length < 400000) (t : Int) (ht : t = (l.length : Int)) :
    ∀ (r : List DTag) (k n : Nat) (out : List DCard), l.drop k = r → k ≤ l.length → r.length < n → out.length ≤ k → checkin_TagCards.l3 K n out l t k = some (out ++ r.map tagCard) := by
  subst ht
  intro r
  induction r with
  | nil =>
    intro k n out hd hk hn ho
    have := drop_nil hd hk
    subst this
    obtain ⟨n, rfl⟩ : ∃ m, n = m + 1 := ⟨n - 1, by omega⟩
    rw [checkin_TagCards.l3_succ]
    simp
  | cons c r ih =>
    intro k n out hd hk hn ho
    obtain ⟨n, rfl⟩ : ∃ m, n = m + 1 := ⟨n - 1, by omega⟩
    simp only [List.length_cons] at hn
    obtain ⟨hg, hlt, hd'⟩ := getD_drop (d := DTy.dflt TTag) hd
    obtain ⟨b1, b2⟩ := hb c (List.mem_of_mem_drop (i := k) (by rw [hd]; exact List.mem_cons_self))
    have h1 : (k : Int) < (l.length : Int) := by omega
    have hnext : checkin_TagCards.r3 K n (checkin_TagCards.m3 (out ++ [tagCard c]) l (l.length : Int) ((k + 1 : Nat) : Int)) = some (out ++ (tagCard c :: r.map tagCard)) := by
      have := ih (k + 1) n (out ++ [tagCard c]) hd' (by omega) (by omega) (by simp; omega)
      rw [List.append_assoc] at this
      exact this
    rw [checkin_TagCards.l3_succ]
    simp only [h1, Int.natCast_nonneg, decide_true, cond_true, chks_t, chks_nil, Int.toNat_natCast, hg, textOf_one]
    rw [catOk_t (by simp; omega), chks_t, chks_nil]
    by_cases hv : c.2.2.2.1 = []
    · rw [show (!decide (c.2.2.2.1 = ([] : List UInt8))) = false by simp [hv], cond_false, checkin_TagCards.j8_eq (by omega), wS (by omega), growOk_t (by omega) (by simp; omega), chks_t, chks_nil]
      unfold tagCard at hnext
      rw [tagArgs_nil hv] at hnext
      refine Eq.trans hnext ?_
      simp [tagCard, tagArgs_nil hv]
    · rw [show (!decide (c.2.2.2.1 = ([] : List UInt8))) = true by simp [hv], cond_true, put_eq hK b2, Option.bind_some, checkin_TagCards.j8_eq (by omega), wS (by omega), growOk_t (by omega) (by simp), growOk_t (by omega) (by simp; omega), chks_t, chks_nil, chks_t, chks_nil]
      unfold tagCard at hnext
      rw [tagArgs_ne hv] at hnext
      refine Eq.trans hnext ?_
      simp [tagCard, tagArgs_ne hv]
theorem tagCards_eq {K : Nat} (hK : 1000000 ≤ K) {l : List DTag} (hl : l.length < 1000000) (hb : ∀ t ∈ l, t.2.1.length < 1000000 ∧ t.2.2.2.1.length < 400000) : checkin_TagCards.f K ((l, ()) : List DTag × Unit) = some (l.map tagCard) := by
  rw [checkin_TagCards.eq]
  exact cards_loop3 hK l hl hb _ rfl l 0 K [] rfl (Nat.zero_le _) (by omega) (by simp)
theorem ops_loop3 {K : Nat} (hK : 1000000 ≤ K) (l : List DTag) (hl : l.length < 1000000) (hb : ∀ t ∈ l, t.2.1.length < 1000000 ∧ t.2.2.2.1.length < 400000) (t : Int) (ht : t = (l.length : Int)) :
    ∀ (r : List DTag) (k n : Nat) (out : List DCard), l.drop k = r → k ≤ l.length → r.length < n → out.length ≤ k → ammoniteref10_ops.l3 K n out l t k = some (out ++ r.map tagCard) := by
  subst ht
  intro r
  induction r with
  | nil =>
    intro k n out hd hk hn ho
    have := drop_nil hd hk
    subst this
    obtain ⟨n, rfl⟩ : ∃ m, n = m + 1 := ⟨n - 1, by omega⟩
    rw [ammoniteref10_ops.l3_succ]
    simp
  | cons c r ih =>
    intro k n out hd hk hn ho
    obtain ⟨n, rfl⟩ : ∃ m, n = m + 1 := ⟨n - 1, by omega⟩
    simp only [List.length_cons] at hn
    obtain ⟨hg, hlt, hd'⟩ := getD_drop (d := DTy.dflt TTag) hd
    obtain ⟨b1, b2⟩ := hb c (List.mem_of_mem_drop (i := k) (by rw [hd]; exact List.mem_cons_self))
    have h1 : (k : Int) < (l.length : Int) := by omega
    have hnext : ammoniteref10_ops.r3 K n (ammoniteref10_ops.m3 (out ++ [tagCard c]) l (l.length : Int) ((k + 1 : Nat) : Int)) = some (out ++ (tagCard c :: r.map tagCard)) := by
      have := ih (k + 1) n (out ++ [tagCard c]) hd' (by omega) (by omega) (by simp; omega)
      rw [List.append_assoc] at this
      exact this
    rw [ammoniteref10_ops.l3_succ]
    simp only [h1, Int.natCast_nonneg, decide_true, cond_true, chks_t, chks_nil, Int.toNat_natCast, hg, textOf_one]
    rw [catOk_t (by simp; omega), chks_t, chks_nil]
    by_cases hv : c.2.2.2.1 = []
    · rw [show (!decide (c.2.2.2.1 = ([] : List UInt8))) = false by simp [hv], cond_false, ammoniteref10_ops.j8_eq (by omega), wS (by omega), growOk_t (by omega) (by simp; omega), chks_t, chks_nil]
      unfold tagCard at hnext
      rw [tagArgs_nil hv] at hnext
      refine Eq.trans hnext ?_
      simp [tagCard, tagArgs_nil hv]
    · rw [show (!decide (c.2.2.2.1 = ([] : List UInt8))) = true by simp [hv], cond_true, esc_eq hK b2, Option.bind_some, ammoniteref10_ops.j8_eq (by omega), wS (by omega), growOk_t (by omega) (by simp), growOk_t (by omega) (by simp; omega), chks_t, chks_nil, chks_t, chks_nil]
      unfold tagCard at hnext
      rw [tagArgs_ne hv] at hnext
      refine Eq.trans hnext ?_
      simp [tagCard, tagArgs_ne hv]
theorem ops_eq {K : Nat} (hK : 1000000 ≤ K) {l : List DTag} (hl : l.length < 1000000) (hb : ∀ t ∈ l, t.2.1.length < 1000000 ∧ t.2.2.2.1.length < 400000) : ammoniteref10_ops.f K ((l, ()) : List DTag × Unit) = some (l.map tagCard) := by
  rw [ammoniteref10_ops.eq]
  exact ops_loop3 hK l hl hb _ rfl l 0 K [] rfl (Nat.zero_le _) (by omega) (by simp)
def mkTag (a b v : List UInt8) : Option DTag :=
  match a with
  | k :: c :: r => some ((k.toNat : Int), c :: r, b, v, ())
  | _ => none
def tagOf : List (List UInt8) → Option DTag
  | [a, b] => mkTag a b []
  | [a, b, v] => (unesc v).bind fun v => mkTag a b v
  | _ => none
def tagsOf : List (List (List UInt8)) → Option (List DTag)
  | [] => some []
  | a :: r => (tagOf a).bind fun t => (tagsOf r).map (t :: ·)
def argsT (l : List DCard) : List (List (List UInt8)) := (l.filter fun c => decide (c.1 = 84)).map fun c => c.2.1
theorem argsT_yes {c : DCard} (r : List DCard) (h : c.1 = 84) : argsT (c :: r) = c.2.1 :: argsT r := by unfold argsT; rw [List.filter_cons]; simp [h]
theorem argsT_no {c : DCard} (r : List DCard) (h : ¬ c.1 = 84) : argsT (c :: r) = argsT r := by unfold argsT; rw [List.filter_cons]; simp [h]
theorem tagOf_args {t : DTag} (h0 : 0 ≤ t.1) (h1 : t.1 < 256) (hn : t.2.1 ≠ []) : tagOf (tagArgs t) = some t := by
  obtain ⟨k, name, target, v, ⟨⟩⟩ := t
  have h0 : 0 ≤ k := h0
  have h1 : k < 256 := h1
  obtain ⟨c, r, hc⟩ : ∃ c r, name = c :: r := List.exists_cons_of_ne_nil hn
  subst hc
  have hk : (((UInt8.ofNat k.toNat).toNat : Nat) : Int) = k := by
    rw [UInt8.toNat_ofNat', Nat.mod_eq_of_lt (by omega)]
    omega
  by_cases hv : v = []
  · subst hv
    rw [tagArgs_nil rfl]
    show mkTag (UInt8.ofNat k.toNat :: c :: r) target [] = _
    unfold mkTag
    simp only [hk]
  · rw [tagArgs_ne hv]
    show ((unesc (escS v)).bind fun v => mkTag (UInt8.ofNat k.toNat :: c :: r) target v) = _
    rw [unesc_escS]
    show mkTag (UInt8.ofNat k.toNat :: c :: r) target v = _
    unfold mkTag
    simp only [hk]
theorem tagsOf_args : ∀ {l : List DTag}, (∀ t ∈ l, 0 ≤ t.1 ∧ t.1 < 256 ∧ t.2.1 ≠ []) → tagsOf (l.map tagArgs) = some l := by
  intro l
  induction l with
  | nil => intro h; rfl
  | cons t l ih =>
    intro h
    obtain ⟨h0, h1, h2⟩ := h t List.mem_cons_self
    rw [List.map_cons, tagsOf, tagOf_args h0 h1 h2, Option.bind_some, ih fun x hx => h x (List.mem_cons_of_mem _ hx)]
    rfl
theorem tagOf_len {a : List (List UInt8)} {t : DTag} {m : Nat} (h : tagOf a = some t) (ha : ∀ x ∈ a, x.length ≤ m) : t.2.1.length ≤ m ∧ t.2.2.1.length ≤ m ∧ t.2.2.2.1.length ≤ m ∧ 0 ≤ t.1 ∧ t.1 < 256 := by
  have mk : ∀ {a b v : List UInt8} {t : DTag}, mkTag a b v = some t → a.length ≤ m → b.length ≤ m → v.length ≤ m → t.2.1.length ≤ m ∧ t.2.2.1.length ≤ m ∧ t.2.2.2.1.length ≤ m ∧ 0 ≤ t.1 ∧ t.1 < 256 := by
    intro a b v t h h1 h2 h3
    match a, h, h1 with
    | [], h, _ => cases h
    | [_], h, _ => cases h
    | k :: c :: r, h, h1 =>
      cases h
      simp only [List.length_cons] at h1 ⊢
      have := k.toNat_lt
      exact ⟨by omega, h2, h3, by omega, by omega⟩
  match a, h, ha with
  | [], h, _ => cases h
  | [_], h, _ => cases h
  | [a, b], h, ha => exact mk h (ha a (by simp)) (ha b (by simp)) (by simp)
  | [a, b, v], h, ha =>
    cases e : unesc v with
    | none => rw [tagOf, e] at h; cases h
    | some w =>
      rw [tagOf, e] at h
      have := unesc_len v.length v w (Nat.le_refl _) e
      exact mk h (ha a (by simp)) (ha b (by simp)) (by have := ha v (by simp); omega)
  | _ :: _ :: _ :: _ :: _, h, _ => cases h
theorem tagsOf_len : ∀ {l : List (List (List UInt8))} {ts : List DTag} {m : Nat}, tagsOf l = some ts → (∀ a ∈ l, ∀ x ∈ a, x.length ≤ m) → ts.length = l.length ∧ ∀ t ∈ ts, t.2.1.length ≤ m ∧ t.2.2.1.length ≤ m ∧ t.2.2.2.1.length ≤ m ∧ 0 ≤ t.1 ∧ t.1 < 256 := by
  intro l
  induction l with
  | nil => intro ts m h ha; cases h; exact ⟨rfl, fun t ht => by cases ht⟩
  | cons a l ih =>
    intro ts m h ha
    rw [tagsOf] at h
    cases e : tagOf a with
    | none => rw [e] at h; cases h
    | some t =>
      rw [e] at h
      cases e2 : tagsOf l with
      | none => rw [e2] at h; cases h
      | some us =>
        rw [e2] at h
        cases h
        obtain ⟨i1, i2⟩ := ih e2 fun b hb => ha b (List.mem_cons_of_mem _ hb)
        refine ⟨by simp [i1], fun x hx => ?_⟩
        cases hx with
        | head => exact tagOf_len e (ha a List.mem_cons_self)
        | tail _ hx => exact i2 x hx
def resT' (out : List DTag) : Option (List DTag) → List DTag × Bool × Unit
  | some ts => (out ++ ts, true, ())
  | none => ([], false, ())
theorem resT'_bind (out : List DTag) (t : DTag) (o : Option (List DTag)) : resT' (out ++ [t]) o = resT' out (o.map (t :: ·)) := by cases o <;> simp [resT']
theorem readTags_loop {K : Nat} (hK : 1000000 ≤ K) : ∀ (v : List (Int × (List (List UInt8)) × Unit)) (b : Bool) (out : List DTag), (∀ x ∈ v, ∀ a ∈ x.2.1, a.length < 1000000) → out.length + v.length < 1000000 →
    checkin_ReadTags.i3 K v b out = some (resT' out (tagsOf (v.map fun x => x.2.1))) := by
  intro v
  induction v with
  | nil => intro b out _ _; rw [checkin_ReadTags.i3_nil]; simp [tagsOf, resT']
  | cons x v ih =>
    intro b out hx ho
    obtain ⟨i, args, ⟨⟩⟩ := x
    simp only [List.length_cons] at ho
    have hargs : ∀ a ∈ args, a.length < 1000000 := hx _ List.mem_cons_self
    have hr : ∀ t : DTag, checkin_ReadTags.j12 K (checkin_ReadTags.r3 K v) b out t.1 t.2.1 t.2.2.1 t.2.2.2.1 = some (resT' out ((tagsOf (v.map fun x => x.2.1)).map (t :: ·))) := by
      intro t
      rw [checkin_ReadTags.j12_eq (by omega), growOk_t (by omega) (by simp; omega), chks_t, chks_nil, ← resT'_bind]
      exact ih b (out ++ [t]) (fun y hy => hx y (List.mem_cons_of_mem _ hy)) (by simp; omega)
    rw [checkin_ReadTags.i3_cons, List.map_cons, tagsOf]
    have hcut : ∀ s : List UInt8, cutL s (some (1 : Int)) none = s.drop 1 := fun s => cutL_from s 1
    match args, hargs with
    | [], _ => rfl
    | [_], _ => rfl
    | [[], b'], _ => rfl
    | [[_], b'], _ => rfl
    | [k :: c :: r, b'], _ =>
      have h := hr ((k.toNat : Int), c :: r, b', [], ())
      have e1 : ¬ ((((k :: c :: r : List UInt8).length : Nat) : Int) < 2) := by simp only [List.length_cons]; omega
      have e2 : decide ((0 : Int) < (((k :: c :: r : List UInt8).length : Nat) : Int)) = true := decide_eq_true (by simp only [List.length_cons]; omega)
      have e3 : decide ((1 : Int) ≤ (((k :: c :: r : List UInt8).length : Nat) : Int)) = true := decide_eq_true (by simp only [List.length_cons]; omega)
      have c1 : decide ((([k :: c :: r, b'] : List (List UInt8)).length : Int) < 2) = false := rfl
      have c2 : decide ((3 : Int) < (([k :: c :: r, b'] : List (List UInt8)).length : Int)) = false := rfl
      have c3 : decide ((0 : Int) < (([k :: c :: r, b'] : List (List UInt8)).length : Int)) = true := rfl
      have c4 : decide ((1 : Int) < (([k :: c :: r, b'] : List (List UInt8)).length : Int)) = true := rfl
      have c5 : decide ((([k :: c :: r, b'] : List (List UInt8)).length : Int) = 3) = false := rfl
      have g0 : ([k :: c :: r, b'] : List (List UInt8)).getD (Int.toNat 0) (DTy.dflt .str) = k :: c :: r := rfl
      have g1 : ([k :: c :: r, b'] : List (List UInt8)).getD (Int.toNat 1) (DTy.dflt .str) = b' := rfl
      have g2 : (k :: c :: r : List UInt8).getD (Int.toNat 0) 0 = k := rfl
      simp only [c1, c2, c3, c4, c5, g0, g1, g2, e1, e2, e3, decide_false, cond_false, cond_true, chks_t, chks_nil, hcut, List.drop_succ_cons, List.drop_zero]
      exact h
    | [[], b', v'], _ => rw [tagOf]; cases unesc v' <;> rfl
    | [[_], b', v'], _ => rw [tagOf]; cases unesc v' <;> rfl
    | [k :: c :: r, b', v'], hargs =>
      have e1 : ¬ ((((k :: c :: r : List UInt8).length : Nat) : Int) < 2) := by simp only [List.length_cons]; omega
      have e2 : decide ((0 : Int) < (((k :: c :: r : List UInt8).length : Nat) : Int)) = true := decide_eq_true (by simp only [List.length_cons]; omega)
      have e3 : decide ((1 : Int) ≤ (((k :: c :: r : List UInt8).length : Nat) : Int)) = true := decide_eq_true (by simp only [List.length_cons]; omega)
      have c1 : decide ((([k :: c :: r, b', v'] : List (List UInt8)).length : Int) < 2) = false := rfl
      have c2 : decide ((3 : Int) < (([k :: c :: r, b', v'] : List (List UInt8)).length : Int)) = false := rfl
      have c3 : decide ((0 : Int) < (([k :: c :: r, b', v'] : List (List UInt8)).length : Int)) = true := rfl
      have c4 : decide ((1 : Int) < (([k :: c :: r, b', v'] : List (List UInt8)).length : Int)) = true := rfl
      have c5 : decide ((([k :: c :: r, b', v'] : List (List UInt8)).length : Int) = 3) = true := rfl
      have c6 : decide ((2 : Int) < (([k :: c :: r, b', v'] : List (List UInt8)).length : Int)) = true := rfl
      have g0 : ([k :: c :: r, b', v'] : List (List UInt8)).getD (Int.toNat 0) (DTy.dflt .str) = k :: c :: r := rfl
      have g1 : ([k :: c :: r, b', v'] : List (List UInt8)).getD (Int.toNat 1) (DTy.dflt .str) = b' := rfl
      have g3 : ([k :: c :: r, b', v'] : List (List UInt8)).getD (Int.toNat 2) (DTy.dflt .str) = v' := rfl
      have g2 : (k :: c :: r : List UInt8).getD (Int.toNat 0) 0 = k := rfl
      simp only [c1, c2, c3, c4, c5, c6, g0, g1, g2, g3, e1, e2, e3, decide_false, cond_false, cond_true, chks_t, chks_nil, hcut, List.drop_succ_cons, List.drop_zero]
      rw [uread_eq hK (hargs v' (by simp)), tagOf]
      cases unesc v' with
      | none => rfl
      | some w => exact hr ((k.toNat : Int), c :: r, b', w, ())
    | a :: b' :: c :: d :: e, _ =>
      have c1 : decide (((a :: b' :: c :: d :: e : List (List UInt8)).length : Int) < 2) = false := decide_eq_false (by simp only [List.length_cons]; omega)
      have c2 : decide ((3 : Int) < ((a :: b' :: c :: d :: e : List (List UInt8)).length : Int)) = true := decide_eq_true (by simp only [List.length_cons]; omega)
      simp only [c1, c2, cond_false, cond_true]
      rfl
theorem ofA_args : ∀ (l : List DCard) (k : Int), (ofA 84 k l).map (fun x => x.2.1) = argsT l := by
  intro l
  induction l with
  | nil => intro k; rfl
  | cons c l ih =>
    intro k
    unfold ofA
    by_cases h : c.1 = 84
    · rw [if_pos h, argsT_yes _ h, List.map_cons, ih]
    · rw [if_neg h, argsT_no _ h, ih]
theorem argsT_mem {l : List DCard} {a : List (List UInt8)} (h : a ∈ argsT l) : ∃ c ∈ l, c.1 = 84 ∧ c.2.1 = a := by
  unfold argsT at h
  obtain ⟨c, hc, rfl⟩ := List.mem_map.1 h
  obtain ⟨h1, h2⟩ := List.mem_filter.1 hc
  exact ⟨c, h1, of_decide_eq_true h2, rfl⟩
theorem readTags_eq {K : Nat} (hK : 1000000 ≤ K) {l : List DCard} (hl : l.length < 1000000) (hb : ∀ c ∈ l, ∀ a ∈ c.2.1, a.length < 1000000) : checkin_ReadTags.f K ((l, ()) : List DCard × Unit) = some (resT' [] (tagsOf (argsT l))) := by
  rw [checkin_ReadTags.eq, of_eq hl, Option.bind_some]
  have hlen := ofA_len 84 l 0
  refine Eq.trans (readTags_loop hK _ false [] (fun x hx a ha => ?_) (by simp; omega)) (by rw [ofA_args])
  obtain ⟨c, hc, -, e⟩ := argsT_mem (l := l) (a := x.2.1) (by rw [← ofA_args l 0]; exact List.mem_map.2 ⟨x, hx, rfl⟩)
  exact hb c hc a (by rw [e]; exact ha)
theorem readOps_loop {K : Nat} (hK : 1000000 ≤ K) (l : List DCard) (hl : l.length < 1000000) (hb : ∀ c ∈ l, ∀ a ∈ c.2.1, a.length < 1000000) (t : Int) (ht : t = (l.length : Int)) :
    ∀ (r : List DCard) (k n : Nat) (out : List DTag), l.drop k = r → k ≤ l.length → r.length < n → out.length ≤ k →
    ammoniteref10_readOps.l3 K n out l t k = some (resT' out (tagsOf (argsT r))) := by
  subst ht
  intro r
  induction r with
  | nil =>
    intro k n out hd hk hn ho
    have := drop_nil hd hk
    subst this
    obtain ⟨n, rfl⟩ : ∃ m, n = m + 1 := ⟨n - 1, by omega⟩
    rw [ammoniteref10_readOps.l3_succ]
    simp [argsT, tagsOf, resT']
  | cons c r ih =>
    intro k n out hd hk hn ho
    obtain ⟨n, rfl⟩ : ∃ m, n = m + 1 := ⟨n - 1, by omega⟩
    simp only [List.length_cons] at hn
    obtain ⟨hg, hlt, hd'⟩ := getD_drop (d := DTy.dflt (.prod (.int .u8) (.prod (.slice .str) .unit))) hd
    have hargs := hb c (List.mem_of_mem_drop (i := k) (by rw [hd]; exact List.mem_cons_self))
    have h1 : (k : Int) < (l.length : Int) := by omega
    have ihn : ∀ out : List DTag, out.length ≤ k + 1 → ammoniteref10_readOps.l3 K n out l (l.length : Int) ((k + 1 : Nat) : Int) = some (resT' out (tagsOf (argsT r))) := fun out ho => ih (k + 1) n out hd' (by omega) (by omega) ho
    obtain ⟨letter, args, ⟨⟩⟩ := c
    rw [ammoniteref10_readOps.l3_succ]
    simp only [h1, Int.natCast_nonneg, decide_true, cond_true, chks_t, chks_nil, Int.toNat_natCast, hg, wS (show k < 4611686018427387904 by omega)]
    by_cases hT : letter = 84
    · rw [argsT_yes _ hT, tagsOf]
      have hr : ∀ t : DTag, ammoniteref10_readOps.j14 K (ammoniteref10_readOps.r3 K n) out l (l.length : Int) (k : Int) t.1 t.2.1 t.2.2.1 t.2.2.2.1 = some (resT' out ((tagsOf (argsT r)).map (t :: ·))) := by
        intro t
        rw [ammoniteref10_readOps.j14_eq (by omega), growOk_t (by omega) (by simp; omega), chks_t, chks_nil, ← resT'_bind, wS (by omega)]
        exact ihn (out ++ [t]) (by simp; omega)
      have hcut : ∀ s : List UInt8, cutL s (some (1 : Int)) none = s.drop 1 := fun s => cutL_from s 1
      simp only [hT, decide_true, Bool.not_true, cond_false]
      match args, hargs with
      | [], _ => rfl
      | [_], _ => rfl
      | [[], b'], _ => rfl
      | [[_], b'], _ => rfl
      | [k :: c :: r, b'], _ =>
        have h := hr ((k.toNat : Int), c :: r, b', [], ())
        have e1 : ¬ ((((k :: c :: r : List UInt8).length : Nat) : Int) < 2) := by simp only [List.length_cons]; omega
        have e2 : decide ((0 : Int) < (((k :: c :: r : List UInt8).length : Nat) : Int)) = true := decide_eq_true (by simp only [List.length_cons]; omega)
        have e3 : decide ((1 : Int) ≤ (((k :: c :: r : List UInt8).length : Nat) : Int)) = true := decide_eq_true (by simp only [List.length_cons]; omega)
        have c1 : decide ((([k :: c :: r, b'] : List (List UInt8)).length : Int) < 2) = false := rfl
        have c2 : decide ((3 : Int) < (([k :: c :: r, b'] : List (List UInt8)).length : Int)) = false := rfl
        have c3 : decide ((0 : Int) < (([k :: c :: r, b'] : List (List UInt8)).length : Int)) = true := rfl
        have c4 : decide ((1 : Int) < (([k :: c :: r, b'] : List (List UInt8)).length : Int)) = true := rfl
        have c5 : decide ((([k :: c :: r, b'] : List (List UInt8)).length : Int) = 3) = false := rfl
        have g0 : ([k :: c :: r, b'] : List (List UInt8)).getD (Int.toNat 0) (DTy.dflt .str) = k :: c :: r := rfl
        have g1 : ([k :: c :: r, b'] : List (List UInt8)).getD (Int.toNat 1) (DTy.dflt .str) = b' := rfl
        have g2 : (k :: c :: r : List UInt8).getD (Int.toNat 0) 0 = k := rfl
        simp only [c1, c2, c3, c4, c5, g0, g1, g2, e1, e2, e3, decide_false, cond_false, cond_true, chks_t, chks_nil, hcut, List.drop_succ_cons, List.drop_zero]
        exact h
      | [[], b', v'], _ => rw [tagOf]; cases unesc v' <;> rfl
      | [[_], b', v'], _ => rw [tagOf]; cases unesc v' <;> rfl
      | [k :: c :: r, b', v'], hargs =>
        have e1 : ¬ ((((k :: c :: r : List UInt8).length : Nat) : Int) < 2) := by simp only [List.length_cons]; omega
        have e2 : decide ((0 : Int) < (((k :: c :: r : List UInt8).length : Nat) : Int)) = true := decide_eq_true (by simp only [List.length_cons]; omega)
        have e3 : decide ((1 : Int) ≤ (((k :: c :: r : List UInt8).length : Nat) : Int)) = true := decide_eq_true (by simp only [List.length_cons]; omega)
        have c1 : decide ((([k :: c :: r, b', v'] : List (List UInt8)).length : Int) < 2) = false := rfl
        have c2 : decide ((3 : Int) < (([k :: c :: r, b', v'] : List (List UInt8)).length : Int)) = false := rfl
        have c3 : decide ((0 : Int) < (([k :: c :: r, b', v'] : List (List UInt8)).length : Int)) = true := rfl
        have c4 : decide ((1 : Int) < (([k :: c :: r, b', v'] : List (List UInt8)).length : Int)) = true := rfl
        have c5 : decide ((([k :: c :: r, b', v'] : List (List UInt8)).length : Int) = 3) = true := rfl
        have c6 : decide ((2 : Int) < (([k :: c :: r, b', v'] : List (List UInt8)).length : Int)) = true := rfl
        have g0 : ([k :: c :: r, b', v'] : List (List UInt8)).getD (Int.toNat 0) (DTy.dflt .str) = k :: c :: r := rfl
        have g1 : ([k :: c :: r, b', v'] : List (List UInt8)).getD (Int.toNat 1) (DTy.dflt .str) = b' := rfl
        have g3 : ([k :: c :: r, b', v'] : List (List UInt8)).getD (Int.toNat 2) (DTy.dflt .str) = v' := rfl
        have g2 : (k :: c :: r : List UInt8).getD (Int.toNat 0) 0 = k := rfl
        simp only [c1, c2, c3, c4, c5, c6, g0, g1, g2, g3, e1, e2, e3, decide_false, cond_false, cond_true, chks_t, chks_nil, hcut, List.drop_succ_cons, List.drop_zero]
        rw [unescape_eq hK (hargs v' (by simp)), tagOf]
        cases unesc v' with
        | none => rfl
        | some w => exact hr ((k.toNat : Int), c :: r, b', w, ())
      | a :: b' :: c :: d :: e, _ =>
        have c1 : decide (((a :: b' :: c :: d :: e : List (List UInt8)).length : Int) < 2) = false := decide_eq_false (by simp only [List.length_cons]; omega)
        have c2 : decide ((3 : Int) < ((a :: b' :: c :: d :: e : List (List UInt8)).length : Int)) = true := decide_eq_true (by simp only [List.length_cons]; omega)
        simp only [c1, c2, cond_false, cond_true]
        rfl
    · rw [argsT_no _ hT]
      simp only [hT, decide_false, Bool.not_false, cond_true]
      exact ihn out (by omega)
theorem readOps_eq {K : Nat} (hK : 1000000 ≤ K) {l : List DCard} (hl : l.length < 1000000) (hb : ∀ c ∈ l, ∀ a ∈ c.2.1, a.length < 1000000) : ammoniteref10_readOps.f K ((l, ()) : List DCard × Unit) = some (resT' [] (tagsOf (argsT l))) := by
  rw [ammoniteref10_readOps.eq]
  exact readOps_loop hK l hl hb _ rfl l 0 K [] rfl (Nat.zero_le _) (by omega) (by simp)
def tagPrev : Option DTag → DTag → Bool
  | none, _ => true
  | some p, t => (Op.bytesLess p.2.1 t.2.1 || decide (p.2.1 = t.2.1)) && (!decide (p.2.1 = t.2.1) || Op.bytesLess p.2.2.1 t.2.2.1)
def okKind (t : DTag) : Bool := decide (t.1 = 43) || (decide (t.1 = 42) || (decide (t.1 = 45) && decide (t.2.2.2.1 = [])))
def okTag (own : Bool) (t : DTag) : Bool := okKind t && (wordB t.2.1 && (decide (t.2.2.2.1.length ≤ 12) && (if own then decide (t.2.2.1 = [42]) else isB t.2.2.1)))
def okTags (own : Bool) : Option DTag → List DTag → Bool
  | _, [] => true
  | p, t :: r => okTag own t && (tagPrev p t && okTags own (some t) r)
def rightT (own : Bool) (l : List DTag) : Bool := okTags own none l && decide (l.length ≤ 12)
def prevOf (l : List DTag) (k : Nat) : Option DTag := if k = 0 then none else some (l.getD (k - 1) (DTy.dflt TTag))
theorem prev_step {l : List DTag} {k : Nat} (hk : k ≤ l.length) (hl : l.length < 4611686018427387904) (t : DTag) (X : Bool) (z : Option Bool) (hz : z = some X) :
    (bif decide ((0 : Int) < (k : Int)) then
      (chks [(decide ((0 : Int) ≤ (IntKind.wrap .i64 ((k : Int) - (1 : Int))))), (decide ((IntKind.wrap .i64 ((k : Int) - (1 : Int))) < (List.length l : Int)))]
       (bif (!(Op.bytesLess (List.getD l (Int.toNat (IntKind.wrap .i64 ((k : Int) - (1 : Int)))) (DTy.dflt TTag)).2.1 t.2.1 || decide ((List.getD l (Int.toNat (IntKind.wrap .i64 ((k : Int) - (1 : Int)))) (DTy.dflt TTag)).2.1 = t.2.1))) then
         (some false)
       else
         (chks [(decide ((0 : Int) ≤ (IntKind.wrap .i64 ((k : Int) - (1 : Int))))), (decide ((IntKind.wrap .i64 ((k : Int) - (1 : Int))) < (List.length l : Int)))]
          (bif (decide ((List.getD l (Int.toNat (IntKind.wrap .i64 ((k : Int) - (1 : Int)))) (DTy.dflt TTag)).2.1 = t.2.1)) then
            (chks [(decide ((0 : Int) ≤ (IntKind.wrap .i64 ((k : Int) - (1 : Int))))), (decide ((IntKind.wrap .i64 ((k : Int) - (1 : Int))) < (List.length l : Int)))]
             (bif (!(Op.bytesLess (List.getD l (Int.toNat (IntKind.wrap .i64 ((k : Int) - (1 : Int)))) (DTy.dflt TTag)).2.2.1 t.2.2.1)) then
               (some false)
             else z))
          else z))))
    else z) = some (tagPrev (prevOf l k) t && X) := by
  subst hz
  unfold prevOf
  cases k with
  | zero => rfl
  | succ j =>
    have b1 : (0 : Int) < ((j + 1 : Nat) : Int) := by omega
    have b2 : (j : Int) < (l.length : Int) := by omega
    simp only [b1, b2, decide_true, cond_true, wP (show j < 4611686018427387904 by omega), Int.natCast_nonneg, chks_t, chks_nil, Int.toNat_natCast, Nat.add_sub_cancel, Nat.add_eq_zero_iff, Nat.one_ne_zero, and_false, if_false, tagPrev]
    generalize Op.bytesLess (l.getD j (DTy.dflt TTag)).2.1 t.2.1 = p
    generalize decide ((l.getD j (DTy.dflt TTag)).2.1 = t.2.1) = q
    generalize Op.bytesLess (l.getD j (DTy.dflt TTag)).2.2.1 t.2.2.1 = u
    cases p <;> cases q <;> cases u <;> rfl
section
variable {K : Nat} (hK : 1000000 ≤ K) (hK2 : K < 4611686018427387904)
include hK hK2
theorem rightTags_loop (own : Bool) (l : List DTag) (hb : ∀ t ∈ l, t.2.1.length < K ∧ t.2.2.1.length < K) (hl : l.length < K) (t : Int) (ht : t = (l.length : Int)) :
    ∀ (r : List DTag) (k n : Nat), l.drop k = r → k ≤ l.length → r.length < n → checkin_RightTags.l2 K n own l l t k = some (okTags own (prevOf l k) r && decide (l.length ≤ 12)) := by
  subst ht
  intro r
  induction r with
  | nil =>
    intro k n hd hk hn
    have := drop_nil hd hk
    subst this
    obtain ⟨n, rfl⟩ : ∃ m, n = m + 1 := ⟨n - 1, by omega⟩
    rw [checkin_RightTags.l2_succ]
    have : ((l.length : Int) ≤ 12) ↔ l.length ≤ 12 := by omega
    simp only [Int.lt_irrefl, decide_false, cond_false, okTags, Bool.true_and, this]
  | cons c r ih =>
    intro k n hd hk hn
    obtain ⟨n, rfl⟩ : ∃ m, n = m + 1 := ⟨n - 1, by omega⟩
    simp only [List.length_cons] at hn
    obtain ⟨hg, hlt, hd'⟩ := getD_drop (d := DTy.dflt TTag) hd
    obtain ⟨b1, b2⟩ := hb c (List.mem_of_mem_drop (i := k) (by rw [hd]; exact List.mem_cons_self))
    have h1 : (k : Int) < (l.length : Int) := by omega
    have hnext : checkin_RightTags.r2 K n (checkin_RightTags.m2 own l l (l.length : Int) ((k + 1 : Nat) : Int)) = some (okTags own (some c) r && decide (l.length ≤ 12)) := by
      have := ih (k + 1) n hd' (by omega) (by omega)
      unfold prevOf at this
      rw [if_neg (by omega), Nat.add_sub_cancel, hg] at this
      exact this
    have h13 : checkin_RightTags.j13 K (checkin_RightTags.r2 K n) own l (k : Int) l (l.length : Int) (k : Int) c.1 c.2.1 c.2.2.1 c.2.2.2.1 = some (tagPrev (prevOf l k) c && (okTags own (some c) r && decide (l.length ≤ 12))) := by
      rw [checkin_RightTags.j13_eq (by omega)]
      exact prev_step hk (by omega) c _ _ (by rw [wS (by omega)]; exact hnext)
    have h11 : checkin_RightTags.j11 K (checkin_RightTags.r2 K n) own l (k : Int) l (l.length : Int) (k : Int) c.1 c.2.1 c.2.2.1 c.2.2.2.1 = some ((wordB c.2.1 && (decide (c.2.2.2.1.length ≤ 12) && (if own then decide (c.2.2.1 = [42]) else isB c.2.2.1))) && (tagPrev (prevOf l k) c && (okTags own (some c) r && decide (l.length ≤ 12)))) := by
      rw [checkin_RightTags.j11_eq (by omega)]
      simp only [h13, word_eq b1 (by omega), is_eq b2 (by omega), Option.bind_some]
      have e1 : ((12 : Int) < (c.2.2.2.1.length : Int)) ↔ ¬ c.2.2.2.1.length ≤ 12 := by omega
      simp only [e1]
      cases wordB c.2.1
      · rfl
      · by_cases e2 : c.2.2.2.1.length ≤ 12
        · cases own
          · cases isB c.2.2.1 <;> simp [e2]
          · by_cases e3 : c.2.2.1 = [42] <;> simp [e2, e3]
        · simp [e2]
    have h8 : checkin_RightTags.j8 K (checkin_RightTags.r2 K n) own l (k : Int) l (l.length : Int) (k : Int) c.1 c.1 c.2.1 c.2.2.1 c.2.2.2.1 = some ((decide (c.1 = 45) && decide (c.2.2.2.1 = [])) && ((wordB c.2.1 && (decide (c.2.2.2.1.length ≤ 12) && (if own then decide (c.2.2.1 = [42]) else isB c.2.2.1))) && (tagPrev (prevOf l k) c && (okTags own (some c) r && decide (l.length ≤ 12))))) := by
      rw [checkin_RightTags.j8_eq (by omega), h11]
      by_cases e1 : c.1 = 45
      · by_cases e2 : c.2.2.2.1 = [] <;> simp [e1, e2]
      · simp [e1]
    rw [checkin_RightTags.l2_succ]
    simp only [h1, Int.natCast_nonneg, decide_true, cond_true, chks_t, chks_nil, Int.toNat_natCast, hg]
    rw [h8, h11, okTags, okTag, okKind]
    by_cases e1 : c.1 = 43
    · simp [e1, Bool.and_assoc]
    · by_cases e2 : c.1 = 42
      · simp [e2, Bool.and_assoc]
      · simp [e1, e2, Bool.and_assoc]
theorem rightTags_eq (own : Bool) {l : List DTag} (hb : ∀ t ∈ l, t.2.1.length < K ∧ t.2.2.1.length < K) (hl : l.length < K) : checkin_RightTags.f K ((own, l, ()) : Bool × List DTag × Unit) = some (rightT own l) := by
  rw [checkin_RightTags.eq]
  exact rightTags_loop hK hK2 own l hb hl _ rfl l 0 K rfl (Nat.zero_le _) hl
theorem rightOps_loop (own : Bool) (l : List DTag) (hb : ∀ t ∈ l, t.2.1.length < K ∧ t.2.2.1.length < K) (hl : l.length < K) (t : Int) (ht : t = (l.length : Int)) :
    ∀ (r : List DTag) (k n : Nat), l.drop k = r → k ≤ l.length → r.length < n → ammoniteref10_rightOps.l2 K n l own l t k = some (okTags own (prevOf l k) r && decide (l.length ≤ 12)) := by
  subst ht
  intro r
  induction r with
  | nil =>
    intro k n hd hk hn
    have := drop_nil hd hk
    subst this
    obtain ⟨n, rfl⟩ : ∃ m, n = m + 1 := ⟨n - 1, by omega⟩
    rw [ammoniteref10_rightOps.l2_succ]
    have : ((l.length : Int) ≤ 12) ↔ l.length ≤ 12 := by omega
    simp only [Int.lt_irrefl, decide_false, cond_false, okTags, Bool.true_and, this]
  | cons c r ih =>
    intro k n hd hk hn
    obtain ⟨n, rfl⟩ : ∃ m, n = m + 1 := ⟨n - 1, by omega⟩
    simp only [List.length_cons] at hn
    obtain ⟨hg, hlt, hd'⟩ := getD_drop (d := DTy.dflt TTag) hd
    obtain ⟨b1, b2⟩ := hb c (List.mem_of_mem_drop (i := k) (by rw [hd]; exact List.mem_cons_self))
    have h1 : (k : Int) < (l.length : Int) := by omega
    have hnext : ammoniteref10_rightOps.r2 K n (ammoniteref10_rightOps.m2 l own l (l.length : Int) ((k + 1 : Nat) : Int)) = some (okTags own (some c) r && decide (l.length ≤ 12)) := by
      have := ih (k + 1) n hd' (by omega) (by omega)
      unfold prevOf at this
      rw [if_neg (by omega), Nat.add_sub_cancel, hg] at this
      exact this
    have h6 : ammoniteref10_rightOps.j6 K (ammoniteref10_rightOps.r2 K n) l own (k : Int) l (l.length : Int) (k : Int) c.1 c.2.1 c.2.2.1 c.2.2.2.1 = some (tagPrev (prevOf l k) c && (okTags own (some c) r && decide (l.length ≤ 12))) := by
      rw [ammoniteref10_rightOps.j6_eq (by omega)]
      exact prev_step hk (by omega) c _ _ (by rw [wS (by omega)]; exact hnext)
    rw [ammoniteref10_rightOps.l2_succ]
    have e1 : ((12 : Int) < (c.2.2.2.1.length : Int)) ↔ ¬ c.2.2.2.1.length ≤ 12 := by omega
    simp only [h1, Int.natCast_nonneg, decide_true, cond_true, chks_t, chks_nil, Int.toNat_natCast, hg, h6, rword_eq b1 (by omega), ris_eq b2 (by omega), Option.bind_some, e1]
    rw [okTags, okTag, okKind]
    simp only [Bool.and_assoc]
    generalize (tagPrev (prevOf l k) c && (okTags own (some c) r && decide (l.length ≤ 12))) = X
    by_cases k1 : c.1 = 43
    · have k2 : ¬ c.1 = 45 := by omega
      simp only [k1, show ¬ ((43 : Int) = 45) by decide, show ¬ ((43 : Int) = 42) by decide, decide_true, decide_false, Bool.not_true, Bool.not_false, cond_true, cond_false, Bool.true_or, Bool.true_and]
      cases wordB c.2.1
      · rfl
      · by_cases e2 : c.2.2.2.1.length ≤ 12
        · cases own
          · cases isB c.2.2.1 <;> simp [e2]
          · by_cases e3 : c.2.2.1 = [42] <;> simp [e2, e3]
        · cases own
          · cases isB c.2.2.1 <;> simp [e2]
          · by_cases e3 : c.2.2.1 = [42] <;> simp [e2, e3]
    · by_cases k2 : c.1 = 45
      · simp only [k2, show ¬ ((45 : Int) = 43) by decide, show ¬ ((45 : Int) = 42) by decide, decide_true, decide_false, Bool.not_true, Bool.not_false, cond_true, cond_false, Bool.true_or, Bool.true_and, Bool.false_or]
        cases wordB c.2.1
        · simp
        · by_cases e4 : c.2.2.2.1 = []
          · cases own
            · cases isB c.2.2.1 <;> simp [e4]
            · by_cases e3 : c.2.2.1 = [42] <;> simp [e4, e3]
          · cases own
            · cases isB c.2.2.1 <;> simp [e4]
            · by_cases e3 : c.2.2.1 = [42] <;> simp [e4, e3]
      · by_cases k3 : c.1 = 42
        · simp only [k3, show ¬ ((42 : Int) = 45) by decide, show ¬ ((42 : Int) = 43) by decide, decide_true, decide_false, Bool.not_true, Bool.not_false, cond_true, cond_false, Bool.true_or, Bool.true_and, Bool.false_or]
          cases wordB c.2.1
          · rfl
          · by_cases e2 : c.2.2.2.1.length ≤ 12
            · cases own
              · cases isB c.2.2.1 <;> simp [e2]
              · by_cases e3 : c.2.2.1 = [42] <;> simp [e2, e3]
            · cases own
              · cases isB c.2.2.1 <;> simp [e2]
              · by_cases e3 : c.2.2.1 = [42] <;> simp [e2, e3]
        · simp only [k1, k2, k3, decide_false, Bool.not_false, cond_true, Bool.false_and, Bool.false_or]
theorem rightOps_eq (own : Bool) {l : List DTag} (hb : ∀ t ∈ l, t.2.1.length < K ∧ t.2.2.1.length < K) (hl : l.length < K) : ammoniteref10_rightOps.f K ((l, own, ()) : List DTag × Bool × Unit) = some (rightT own l) := by
  rw [ammoniteref10_rightOps.eq]
  exact rightOps_loop hK hK2 own l hb hl _ rfl l 0 K rfl (Nat.zero_le _) hl
end
theorem eqD_tag (a b : DTag) : eqD TTag a b = decide (a = b) := by
  obtain ⟨a1, a2, a3, a4, ⟨⟩⟩ := a
  obtain ⟨b1, b2, b3, b4, ⟨⟩⟩ := b
  show (decide (a1 = b1) && (decide (a2 = b2) && (decide (a3 = b3) && (decide (a4 = b4) && true)))) = _
  by_cases e1 : a1 = b1 <;> by_cases e2 : a2 = b2 <;> by_cases e3 : a3 = b3 <;> by_cases e4 : a4 = b4 <;> simp [e1, e2, e3, e4]
theorem equal_loop {K : Nat} (a b : List DTag) (hl : a.length = b.length) (h2 : a.length < 4611686018427387904) (t : Int) (ht : t = (a.length : Int)) : ∀ (r : List DTag) (k n : Nat), a.drop k = r → k ≤ a.length → r.length < n →
    slices_Equal_TagOp.l4 K n a b t k = some (decide (r = b.drop k)) := by
  subst ht
  intro r
  induction r with
  | nil =>
    intro k n hd hk hn
    have := drop_nil hd hk
    subst this
    obtain ⟨n, rfl⟩ : ∃ m, n = m + 1 := ⟨n - 1, by omega⟩
    have : b.drop a.length = [] := by rw [hl]; simp
    rw [slices_Equal_TagOp.l4_succ, this]
    simp
  | cons x r ih =>
    intro k n hd hk hn
    obtain ⟨n, rfl⟩ : ∃ m, n = m + 1 := ⟨n - 1, by omega⟩
    simp only [List.length_cons] at hn
    obtain ⟨hg, hlt, hd'⟩ := getD_drop (d := DTy.dflt TTag) hd
    obtain ⟨y, u, hy, gy, dy⟩ := list_drop_ext (y := DTy.dflt TTag) (d := DTy.dflt TTag) hl hd
    have h1 : (k : Int) < (a.length : Int) := by omega
    have h3 : (k : Int) < (b.length : Int) := by omega
    have ihn := ih (k + 1) n hd' (by omega) (by omega)
    rw [slices_Equal_TagOp.l4_succ, hy]
    simp only [h1, h3, Int.natCast_nonneg, decide_true, cond_true, chks_t, chks_nil, Int.toNat_natCast, hg, gy, eqD_tag, wS (show k < 4611686018427387904 by omega), ihn, dy]
    by_cases e : x = y <;> simp [e]
theorem equalT_eq {K : Nat} {a b : List DTag} (h : a.length < K) (h2 : K < 4611686018427387904) : slices_Equal_TagOp.f K ((a, b, ()) : List DTag × List DTag × Unit) = some (decide (a = b)) := by
  rw [slices_Equal_TagOp.eq]
  by_cases e : a.length = b.length
  · have e1 : ((a.length : Int) = (b.length : Int)) := by omega
    have := equal_loop (K := K) a b e (by omega) _ rfl a 0 K rfl (Nat.zero_le _) h
    simp only [e1, decide_true, Bool.not_true, cond_false]
    rw [← e1]
    exact this
  · have e1 : ¬ ((a.length : Int) = (b.length : Int)) := by omega
    have e2 : ¬ a = b := fun x => e (by rw [x])
    simp [e1, e2]
theorem same_loop {K : Nat} (a b : List DTag) (hl : a.length = b.length) (h2 : a.length < 4611686018427387904) : ∀ (r : List DTag) (k n : Nat), a.drop k = r → k ≤ a.length → r.length < n →
    ammonitebook_Same_TagOp.l4 K n a b k = some (decide (r = b.drop k)) := by
  intro r
  induction r with
  | nil =>
    intro k n hd hk hn
    have := drop_nil hd hk
    subst this
    obtain ⟨n, rfl⟩ : ∃ m, n = m + 1 := ⟨n - 1, by omega⟩
    have : b.drop a.length = [] := by rw [hl]; simp
    rw [ammonitebook_Same_TagOp.l4_succ, this]
    simp
  | cons x r ih =>
    intro k n hd hk hn
    obtain ⟨n, rfl⟩ : ∃ m, n = m + 1 := ⟨n - 1, by omega⟩
    simp only [List.length_cons] at hn
    obtain ⟨hg, hlt, hd'⟩ := getD_drop (d := DTy.dflt TTag) hd
    obtain ⟨y, u, hy, gy, dy⟩ := list_drop_ext (y := DTy.dflt TTag) (d := DTy.dflt TTag) hl hd
    have h1 : (k : Int) < (a.length : Int) := by omega
    have h3 : (k : Int) < (b.length : Int) := by omega
    have ihn := ih (k + 1) n hd' (by omega) (by omega)
    rw [ammonitebook_Same_TagOp.l4_succ, hy]
    simp only [h1, h3, Int.natCast_nonneg, decide_true, cond_true, chks_t, chks_nil, Int.toNat_natCast, hg, gy, eqD_tag, wS (show k < 4611686018427387904 by omega), ihn, dy]
    by_cases e : x = y <;> simp [e]
theorem sameT_eq {K : Nat} {a b : List DTag} (h : a.length < K) (h2 : K < 4611686018427387904) : ammonitebook_Same_TagOp.f K ((a, b, ()) : List DTag × List DTag × Unit) = some (decide (a = b)) := by
  rw [ammonitebook_Same_TagOp.eq]
  by_cases e : a.length = b.length
  · have e1 : ((a.length : Int) = (b.length : Int)) := by omega
    have := same_loop (K := K) a b e (by omega) a 0 K rfl (Nat.zero_le _) h
    simp only [e1, decide_true, Bool.not_true, cond_false]
    exact this
  · have e1 : ¬ ((a.length : Int) = (b.length : Int)) := by omega
    have e2 : ¬ a = b := fun x => e (by rw [x])
    simp [e1, e2]
end Go.Proofs.Ytaoadbkoambjbaa.Ab
