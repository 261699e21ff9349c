/- The plain law of the printed squeeze.Expand: what it answers, on lists. -/
import Derived.Test.YtjiafbckfnglmaaPDigitMore
import Derived.Test.YtjiafbckfnglmaaQx2
namespace Go.Proofs.Ytjiafbckfnglmaa.B
open Go.RowKit Go.Proofs.Ytjiafbckfnglmaa.PW Go.Proofs.Ytjiafbckfnglmaa.Given Go.Proofs.Ytjiafbckfnglmaa.Q Go.Proofs.YtjiafbckfnglmaaW.PrintWords Go.Proofs.YtjiafbckfnglmaaW.PrintMore
/-- n bytes more, each as far back. -/
def rep : Nat → Nat → List Int → List Int
  | 0, _, o => o
  | n + 1, b, o => rep n b (o ++ [o.getD (o.length - b) 0])
theorem rep_len (n b : Nat) : ∀ o, (rep n b o).length = o.length + n := by
  induction n with
  | zero => intro o; rfl
  | succ n ih => intro o; unfold rep; rw [ih, List.length_append]; simp only [List.length_cons, List.length_nil]; omega
/-- The pieces' answer: none where they are none. -/
def exGo (size : Nat) : Nat → List Int → List Int → Option (List Int)
  | _, [], o => if o.length = size then some o else none
  | 0, _ :: _, _ => none
  | f + 1, c :: r, o =>
    if c < 128 then (if r.length < c.toNat + 1 ∨ size < o.length + (c.toNat + 1) then none else exGo size f (r.drop (c.toNat + 1)) (o ++ r.take (c.toNat + 1)))
    else match r with
      | x :: y :: r' => if size < o.length + (c.toNat - 125) ∨ x * 256 + y < 1 ∨ (o.length : Int) < x * 256 + y then none else exGo size f r' (rep (c.toNat - 125) (x * 256 + y).toNat o)
      | _ => none
/-- Enough fuel is enough. -/
theorem exGo_fuel (size : Nat) (f : Nat) : ∀ (g : Nat) (l o : List Int), l.length ≤ f → f ≤ g → exGo size g l o = exGo size f l o := by
  induction f with
  | zero =>
    intro g l o h _
    have : l = [] := List.eq_nil_of_length_eq_zero (by omega)
    subst this
    cases g <;> rfl
  | succ f ih =>
    intro g l o h hg
    obtain ⟨g, rfl⟩ : ∃ j, g = j + 1 := ⟨g - 1, by omega⟩
    cases l with
    | nil => rfl
    | cons c r =>
      simp only [List.length_cons] at h
      unfold exGo
      by_cases a : c < 128
      · rw [if_pos a, if_pos a]
        by_cases b : r.length < c.toNat + 1 ∨ size < o.length + (c.toNat + 1)
        · rw [if_pos b, if_pos b]
        · rw [if_neg b, if_neg b]
          exact ih g _ _ (by rw [List.length_drop]; omega) (by omega)
      · rw [if_neg a, if_neg a]
        match r, h with
        | [], _ => rfl
        | [_], _ => rfl
        | x :: y :: r', h =>
          simp only [List.length_cons] at h
          dsimp only
          by_cases b : size < o.length + (c.toNat - 125) ∨ x * 256 + y < 1 ∨ (o.length : Int) < x * 256 + y
          · rw [if_pos b, if_pos b]
          · rw [if_neg b, if_neg b]
            exact ih g _ _ (by omega) (by omega)
/-- What Expand hands back. -/
def exR : Option (List Int) → ByteArray × Bool
  | none => (⟨#[]⟩, false)
  | some l => (strOfNums l, true)
theorem or256 {x y : Int} (h0 : 0 ≤ x) (h1 : x < 256) (h2 : 0 ≤ y) (h3 : y < 256) : Go.bits .or .i64 (wrap64 ((wrap64 x) * 256)) (wrap64 y) = x * 256 + y := by
  rw [w64 (n := x) (by omega) (by omega), w64 (n := y) (by omega) (by omega), w64 (n := x * 256) (by omega) (by omega)]
  exact bits_join .i64 63 (by decide) wraps_i64 8 (x * 256) y (by omega) (by omega) (by omega) h2 (by omega) (by omega)
theorem wsucc {i : Nat} (h : i ≤ 4611686018427387904) : wrap64 ((i : Int) + 1) = ((i + 1 : Nat) : Int) := by rw [w64 (by omega) (by omega)]; omega
theorem wadd {i j : Nat} {x : Int} (hx : x = j) (h : i + j ≤ 4611686018427387904) : wrap64 ((i : Int) + x) = ((i + j : Nat) : Int) := by rw [w64 (by omega) (by omega)]; omega
theorem wsub {i j : Nat} (h : i ≤ 4611686018427387904) (h2 : j ≤ 4611686018427387904) : wrap64 ((i : Int) - j) = (i : Int) - j := w64 (by omega) (by omega)
theorem wbyte {c : Int} (h0 : 0 ≤ c) (h1 : c < 256) : wrap64 ((wrap64 c) + 1) = c + 1 := by rw [w64 (n := c) (by omega) (by omega), w64 (by omega) (by omega)]
theorem wless {c : Int} (h0 : 0 ≤ c) (h1 : c < 256) : wrap64 (c + 1 + (-126)) = ((c - 125 : Int)) := by rw [w64 (by omega) (by omega)]; omega
/-- The inner loop. -/
theorem rep_loop (s : ByteArray) (at_ size : Int) (b : Nat) (hb : 1 ≤ b) (n : Nat) (r : ByteArray × Bool) (d : Nat) : ∀ (i : Nat) (o : List Int), i + d = n → n ≤ 1000 → b ≤ o.length → o.length + d ≤ 1073741824 →
    Ev (fun k => squeeze_Expand.l0 k s at_ size (rep d b o)) r → Ev (fun k => squeeze_Expand.l1 k s at_ size o b n i) r := by
  induction d with
  | zero =>
    intro i o hi hn hbo hl h
    refine Ev.step (fun k => squeeze_Expand.l1.eq_2 s at_ size o b n i k) ?_
    exact Ev.nn (by omega) h
  | succ d ih =>
    intro i o hi hn hbo hl h
    refine Ev.step (fun k => squeeze_Expand.l1.eq_2 s at_ size o b n i k) ?_
    have e : (o.length : Int) - b = ((o.length - b : Nat) : Int) := by omega
    rw [wsub (by omega) (by omega), wsucc (by omega), e]
    refine Ev.ip (by omega) (Ev.nn (by omega) (Ev.nn (by omega) (Ev.ip (by omega) (Ev.ip (by omega) (Ev.ip (by omega) ?_)))))
    have hr : rd o ((o.length - b : Nat) : Int) = o.getD (o.length - b) 0 := by unfold rd; rw [Int.toNat_natCast]
    rw [hr]
    refine ih (i + 1) _ (by omega) hn ?_ ?_ h
    · rw [List.length_append]; omega
    · rw [List.length_append]; simp only [List.length_cons, List.length_nil]; omega
/-- The pieces' loop. -/
theorem ex_loop (s : ByteArray) (hs : s.size ≤ 4611686018427387904) (size : Nat) (hz : size ≤ 1073741824) (f : Nat) : ∀ (i : Nat) (l o : List Int), (bytesOf s).drop i = l → i ≤ s.size → l.length ≤ f → o.length ≤ size →
    Ev (fun k => squeeze_Expand.l0 k s i size o) (exR (exGo size f l o)) := by
  induction f with
  | zero =>
    intro i l o hl h1 h2 h3
    have : l = [] := List.eq_nil_of_length_eq_zero (by omega)
    subst this
    have hi : i = s.size := by
      have := congrArg List.length hl
      rw [List.length_drop, size_len, List.length_nil] at this
      omega
    refine Ev.step (fun k => squeeze_Expand.l0.eq_2 s i size o k) ?_
    refine Ev.ip (by omega) ?_
    unfold exGo
    by_cases e : o.length = size
    · rw [if_pos e]; exact Ev.ip (by omega) (Ev.now _)
    · rw [if_neg e]; exact Ev.nn (by omega) (Ev.now _)
  | succ f ih =>
    intro i l o hl h1 h2 h3
    have hlen : s.size - i = l.length := by
      have := congrArg List.length hl
      rw [List.length_drop, size_len] at this
      omega
    refine Ev.step (fun k => squeeze_Expand.l0.eq_2 s i size o k) ?_
    cases l with
    | nil =>
      simp only [List.length_nil] at hlen
      refine Ev.ip (by omega) ?_
      unfold exGo
      by_cases e : o.length = size
      · rw [if_pos e]; exact Ev.ip (by omega) (Ev.now _)
      · rw [if_neg e]; exact Ev.nn (by omega) (Ev.now _)
    | cons c r =>
      simp only [List.length_cons] at hlen h2
      have hi : i < s.size := by omega
      rw [drop_cons s i hi] at hl
      injection hl with hc hl
      have hb := bt_range s i
      rw [hc] at hb
      refine Ev.nn (by omega) (Ev.ip (by omega) (Ev.ip (by omega) ?_))
      rw [hc]
      rw [wbyte hb.1 (by omega), wsucc (by omega), wsub (by omega) (by omega), wsub (by omega) (by omega), wless hb.1 (by omega)]
      have hlr : (s.size : Int) - ((i + 1 : Nat) : Int) = (r.length : Int) := by omega
      rw [hlr]
      unfold exGo
      by_cases a : c < 128
      · rw [if_pos a]
        refine Ev.ip (by omega) ?_
        by_cases b1 : r.length < c.toNat + 1
        · rw [if_pos (Or.inl b1)]; exact Ev.ip (by omega) (Ev.now _)
        · refine Ev.nn (by omega) ?_
          by_cases b2 : size < o.length + (c.toNat + 1)
          · rw [if_pos (Or.inr b2)]; exact Ev.ip (by omega) (Ev.now _)
          · rw [if_neg (by omega)]
            rw [wadd (i := i + 1) (j := c.toNat + 1) (x := c + 1) (by omega) (by omega)]
            have cs : (cutS s (i + 1) (i + 1 + (c.toNat + 1))).size = c.toNat + 1 := by rw [size_cut (by omega)]; omega
            have cb : bytesOf (cutS s (i + 1) (i + 1 + (c.toNat + 1))) = r.take (c.toNat + 1) := by rw [bytesOf_cut, hl]; congr 1; omega
            refine Ev.nn (by omega) (Ev.ip (by omega) (Ev.ip (by omega) (Ev.ip (by omega) (Ev.ip (by rw [Int.toNat_natCast, Int.toNat_natCast, cs]; omega) ?_))))
            rw [Int.toNat_natCast, Int.toNat_natCast, cb]
            refine ih (i + 1 + (c.toNat + 1)) (r.drop (c.toNat + 1)) _ ?_ (by omega) (by rw [List.length_drop]; omega) (by rw [List.length_append, List.length_take]; omega)
            rw [← hl, List.drop_drop]
      · rw [if_neg a]
        refine Ev.nn (by omega) ?_
        match r, hlen, h2, hl with
        | [], hlen, h2, hl =>
          refine Ev.ip (by simp) (Ev.step (fun k => squeeze_Expand.j2.eq_2 s _ size o _ true k) ?_)
          exact Ev.ip rfl (Ev.now _)
        | [_], hlen, h2, hl =>
          refine Ev.ip (by simp) (Ev.step (fun k => squeeze_Expand.j2.eq_2 s _ size o _ true k) ?_)
          exact Ev.ip rfl (Ev.now _)
        | x :: y :: r', hlen, h2, hl =>
          simp only [List.length_cons] at hlen h2
          dsimp only
          refine Ev.nn (by simp only [List.length_cons]; omega) (Ev.step (fun k => squeeze_Expand.j2.eq_2 s _ size o _ _ k) ?_)
          by_cases b1 : size < o.length + (c.toNat - 125)
          · rw [if_pos (Or.inl b1)]; exact Ev.ip (decide_eq_true (by omega)) (Ev.now _)
          · refine Ev.nn (by rw [decide_eq_false (by omega)]; decide) ?_
            rw [drop_cons s (i + 1) (by omega)] at hl
            injection hl with hx hl
            rw [drop_cons s (i + 1 + 1) (by omega)] at hl
            injection hl with hy hl
            have rx := bt_range s ((i + 1 : Nat) : Int)
            have ry := bt_range s ((i + 1 + 1 : Nat) : Int)
            rw [hx] at rx
            rw [hy] at ry
            rw [wsucc (i := i + 1) (by omega), wadd (i := i + 1) (j := 2) (x := 2) rfl (by omega)]
            show Ev (fun n => if (0 : Int) ≤ ((i + 1 : Nat) : Int) then if ((i + 1 : Nat) : Int) < (s.size : Int) then if (0 : Int) ≤ ((i + 1 + 1 : Nat) : Int) then if ((i + 1 + 1 : Nat) : Int) < (s.size : Int) then squeeze_Expand.l1 n s ((i + 1 + 1 + 1 : Nat) : Int) size o _ _ 0 else none else none else none else none) _
            refine Ev.ip (by omega) (Ev.ip (by omega) (Ev.ip (by omega) (Ev.ip (by omega) ?_)))
            rw [hx, hy, or256 rx.1 (by omega) ry.1 (by omega)]
            have e9 : (c - 125 : Int) = ((c.toNat - 125 : Nat) : Int) := by omega
            rw [e9]
            clear e9
            by_cases b2 : x * 256 + y < 1
            · rw [if_pos (Or.inr (Or.inl b2))]
              refine Ev.step (fun k => squeeze_Expand.l1.eq_2 s _ size o _ _ 0 k) ?_
              exact Ev.ip (by omega) (Ev.ip b2 (Ev.now _))
            · by_cases b3 : (o.length : Int) < x * 256 + y
              · rw [if_pos (Or.inr (Or.inr b3))]
                refine Ev.step (fun k => squeeze_Expand.l1.eq_2 s _ size o _ _ 0 k) ?_
                exact Ev.ip (by omega) (Ev.nn b2 (Ev.ip (by omega) (Ev.now _)))
              · rw [if_neg (by omega)]
                obtain ⟨w, hw⟩ : ∃ w : Nat, x * 256 + y = w := ⟨(x * 256 + y).toNat, by omega⟩
                rw [hw, Int.toNat_natCast]
                refine rep_loop s _ size w (by omega) (c.toNat - 125) _ (c.toNat - 125) 0 o (by omega) (by omega) (by omega) (by omega) ?_
                exact ih (i + 1 + 1 + 1) r' _ hl (by omega) (by omega) (by rw [rep_len]; omega)
/-! ### the whole -/
theorem index_spec (l : List UInt8) (c : UInt8) : Lib.indexByte l c = if c ∈ l then ((l.takeWhile (· != c)).length : Int) else -1 := by
  induction l with
  | nil => rfl
  | cons b l ih =>
    unfold Lib.indexByte
    by_cases e : b = c
    · subst e
      simp
    · have e' : (b == c) = false := by simpa using e
      rw [e', ih, if_neg (by decide : ¬ (false = true))]
      by_cases h : c ∈ l
      · have tw : (b :: l).takeWhile (· != c) = b :: l.takeWhile (· != c) := by rw [List.takeWhile_cons, if_pos (by simpa using e)]
        have q : (((l.takeWhile (· != c)).length : Int) == -1) = false := by simp
        rw [if_pos h, if_pos (List.mem_cons_of_mem _ h), tw, q, if_neg (by decide), List.length_cons]
        omega
      · have : c ∉ b :: l := by simp; exact ⟨fun x => e x.symm, h⟩
        rw [if_neg h, if_neg this]
        rfl
/-- Where the first semicolon stands. -/
theorem semi_at (s : ByteArray) : strings_IndexByte.f s 59 = some (if 59 ∈ bytesOf s then (((bytesOf s).takeWhile (· != 59)).length : Int) else -1) := by
  unfold strings_IndexByte.f
  rw [index_spec]
  have h1 : ((59 : Int).toNat.toUInt8 ∈ s.data.toList) ↔ 59 ∈ bytesOf s := by
    unfold bytesOf
    rw [List.mem_map]
    constructor
    · intro h; exact ⟨_, h, rfl⟩
    · rintro ⟨b, h, e⟩
      have : b = (59 : Int).toNat.toUInt8 := by apply UInt8.toNat_inj.1; show b.toNat = 59; omega
      rw [← this]; exact h
  have h2 : ∀ l : List UInt8, (l.takeWhile (· != (59 : Int).toNat.toUInt8)).length = ((l.map fun b => (b.toNat : Int)).takeWhile (· != 59)).length := by
    intro l
    induction l with
    | nil => rfl
    | cons b l ih =>
      rw [List.map_cons, List.takeWhile_cons, List.takeWhile_cons]
      have e : (b != (59 : Int).toNat.toUInt8) = ((b.toNat : Int) != 59) := by
        rw [Bool.eq_iff_iff]
        simp only [bne_iff_ne, ne_eq]
        constructor
        · intro h g; apply h; apply UInt8.toNat_inj.1; show b.toNat = 59; omega
        · intro h g; apply h; rw [g]; rfl
      rw [e]
      split
      · rw [List.length_cons, List.length_cons, ih]
      · rfl
  by_cases h : 59 ∈ bytesOf s
  · rw [if_pos h, if_pos (h1.2 h), h2]; rfl
  · rw [if_neg h, if_neg (fun x => h (h1.1 x))]
/-- What Expand answers of a text. -/
def exS (l : List Int) (most : Int) : Option (List Int) :=
  if 59 ∈ l then match rdDec (l.takeWhile (· != 59)) with
    | none => none
    | some n => if (n : Int) > most then none else exGo n (l.drop ((l.takeWhile (· != 59)).length + 1)).length (l.drop ((l.takeWhile (· != 59)).length + 1)) []
  else none
theorem rdDec_le {l : List Int} {n : Nat} (h : rdDec l = some n) : n ≤ 1073741824 := by
  unfold rdDec at h
  split at h
  · rename_i g
    have := g.2.2.1
    injection h with h
    omega
  · cases h
theorem take_take_while (l : List Int) (p : Int → Bool) : l.take (l.takeWhile p).length = l.takeWhile p := by
  induction l with
  | nil => rfl
  | cons a l ih =>
    rw [List.takeWhile_cons]
    split
    · simp [ih]
    · rfl
theorem takeWhile_lt {l : List Int} (h : 59 ∈ l) : (l.takeWhile (· != 59)).length < l.length := by
  induction l with
  | nil => cases h
  | cons a l ih =>
    rw [List.takeWhile_cons]
    by_cases e : a = 59
    · rw [if_neg (by simpa using e)]; simp
    · rw [if_pos (by simpa using e)]
      have : 59 ∈ l := by cases h with
        | head => exact absurd rfl e
        | tail _ h => exact h
      have := ih this
      simp only [List.length_cons]; omega
theorem expand_ev (s : ByteArray) (hs : s.size ≤ 4611686018427387904) (most : Int) : Ev (fun k => squeeze_Expand.f k s most) (exR (exS (bytesOf s) most)) := by
  unfold squeeze_Expand.f exS
  refine Ev.cb (semi_at s) ?_
  by_cases h : 59 ∈ bytesOf s
  · rw [if_pos h, if_pos h]
    have lt := takeWhile_lt h
    have tk := take_take_while (bytesOf s) (· != 59)
    generalize hw : (bytesOf s).takeWhile (· != 59) = w at lt tk
    rw [size_len] at lt
    have cs : (cutS s 0 w.length).size = w.length := by rw [size_cut (by omega)]; omega
    have cb : bytesOf (cutS s 0 w.length) = w := by rw [bytesOf_cut, List.drop_zero, Nat.sub_zero, tk]
    refine Ev.nn (by omega) (Ev.ip (by omega) (Ev.ip (by omega) ?_))
    rw [Int.toNat_natCast]
    refine Ev.bind (readDec_ev _ (by omega)) ?_
    rw [cb]
    unfold rdDecR
    cases hr : rdDec w with
    | none => exact Ev.nn (by decide) (Ev.step (fun k => squeeze_Expand.j0.eq_2 s _ _ true k) (Ev.ip rfl (Ev.now _)))
    | some n =>
      have hn := rdDec_le hr
      refine Ev.ip rfl (Ev.step (fun k => squeeze_Expand.j0.eq_2 s _ _ _ k) ?_)
      dsimp only
      by_cases g : (n : Int) > most
      · rw [if_pos g]; exact Ev.ip (decide_eq_true g) (Ev.now _)
      · rw [if_neg g]
        refine Ev.nn (by rw [decide_eq_false g]; decide) ?_
        rw [wsucc (by omega)]
        exact ex_loop s hs n hn _ (w.length + 1) _ [] rfl (by omega) (Nat.le_refl _) (by simp)
  · rw [if_neg h, if_neg h]
    exact Ev.ip (by omega) (Ev.now _)
theorem exS_dec {n : Nat} (hn : n ≤ 1073741824) (r : List Int) (most : Int) : exS (decL n ++ 59 :: r) most = if (n : Int) > most then none else exGo n r.length r [] := by
  have tw : (decL n ++ 59 :: r).takeWhile (· != 59) = decL n := by
    have : ∀ l : List Int, (∀ c ∈ l, 48 ≤ c ∧ c ≤ 57) → (l ++ 59 :: r).takeWhile (· != 59) = l := by
      intro l
      induction l with
      | nil => intro _; rfl
      | cons a l ih =>
        intro h
        have ha := h a (List.mem_cons_self ..)
        rw [List.cons_append, List.takeWhile_cons, if_pos (by simp; omega), ih (fun x hx => h x (List.mem_cons_of_mem _ hx))]
    exact this _ (decL_mem n)
  unfold exS
  rw [if_pos (by simp), tw, rdDec_dec hn]
  dsimp only
  have : (decL n ++ 59 :: r).drop ((decL n).length + 1) = r := by
    have e : decL n ++ 59 :: r = (decL n ++ [59]) ++ r := by rw [List.append_assoc]; rfl
    rw [e]
    exact List.drop_left' (by simp)
  rw [this]
end Go.Proofs.Ytjiafbckfnglmaa.B
