/- The plain laws of delta.longest, delta.plain, delta.Make: a delta that says its target, not much longer. -/
import Derived.Test.YtcjkichimndioabPList
import Derived.Test.YtcjkichimndioabQx4
import Derived.Test.YtcjkichimndioabQx4
import Derived.Test.YtcjkichimndioabQx5
set_option linter.unusedSimpArgs false
namespace Go.Proofs.Ytcjkichimndioab.B
open Go.RowKit Go.Proofs.Ytcjkichimndioab.PW Go.Proofs.Ytcjkichimndioab.Given Go.Proofs.Ytcjkichimndioab.Q Go.Proofs.YtcjkichimndioabW.PrintWords Go.Proofs.YtcjkichimndioabW.PrintMore
/-- So many bytes at a place of a source are the beginning of a text. -/
def mt (s r : ByteArray) (q p : Nat) : Prop := q + p ≤ s.size ∧ p ≤ r.size ∧ ∀ j, j < p → bt s ((q + j : Nat) : Int) = bt r (j : Int)
theorem mt_take {s r : ByteArray} {q p : Nat} (h : mt s r q p) : ((bytesOf s).drop q).take p = (bytesOf r).take p := by
  apply List.ext_getElem
  · rw [List.length_take, List.length_drop, List.length_take, size_len, size_len]
    have := h.1
    have := h.2.1
    omega
  · intro j h1 h2
    rw [List.length_take] at h1 h2
    rw [List.length_drop, size_len] at h1
    rw [size_len] at h2
    rw [List.getElem_take, List.getElem_drop, List.getElem_take]
    have e := h.2.2 j (by omega)
    rw [bt_nat, bt_nat, List.getD_eq_getElem?_getD, List.getD_eq_getElem?_getD, List.getElem?_eq_getElem (by rw [size_len]; omega), List.getElem?_eq_getElem (by rw [size_len]; omega)] at e
    exact e
theorem long_in (s r : ByteArray) (hs : s.size ≤ 1073741824) (hr : r.size ≤ 1073741824) (m i f n : Nat) (hi : i ≤ 1073741824) (hg : mt s r f n) (d : Nat) : ∀ k, k + d = r.size → mt s r i k →
    ∃ f' n' : Nat, mt s r f' n' ∧ n ≤ n' ∧ (∀ p, mt s r i p → p ≤ n') ∧ ∀ res, Ev (fun z => delta_longest.l0 z s r f' n' m ((i + 1 : Nat) : Int)) res → Ev (fun z => delta_longest.l1 z s r f n i k m i) res := by
  have stop : ∀ k : Nat, mt s r i k → (∀ p, mt s r i p → p ≤ k) → (∀ res, Ev (fun z => if (k : Int) > (n : Int) then delta_longest.l0 z s r i k m ((i + 1 : Nat) : Int) else delta_longest.l0 z s r f n m ((i + 1 : Nat) : Int)) res → Ev (fun z => delta_longest.l1 z s r f n i k m i) res) →
      ∃ f' n' : Nat, mt s r f' n' ∧ n ≤ n' ∧ (∀ p, mt s r i p → p ≤ n') ∧ ∀ res, Ev (fun z => delta_longest.l0 z s r f' n' m ((i + 1 : Nat) : Int)) res → Ev (fun z => delta_longest.l1 z s r f n i k m i) res := by
    intro k hk hp go
    by_cases g : n < k
    · exact ⟨i, k, hk, by omega, hp, fun res e => go res (Ev.ip (by omega) e)⟩
    · exact ⟨f, n, hg, Nat.le_refl _, fun p h => by have := hp p h; omega, fun res e => go res (Ev.nn (by omega) e)⟩
  induction d with
  | zero =>
    intro k hk hm
    refine stop k hm (fun p h => by have := h.2.1; omega) ?_
    intro res e
    refine Ev.step (fun z => delta_longest.l1.eq_2 s r f n i k m i z) (Ev.nn (by omega) ?_)
    refine Ev.step (fun z => delta_longest.j3.eq_2 s r f n i k m i false z) (Ev.nn (by decide) ?_)
    rw [wnat (by omega)]
    exact e
  | succ d ih =>
    intro k hk hm
    by_cases g : i + k < s.size
    · by_cases g2 : bt s ((i + k : Nat) : Int) = bt r (k : Int)
      · obtain ⟨f', n', a, b, c, go⟩ := ih (k + 1) (by omega) ⟨by omega, by omega, fun j hj => by
          by_cases q : j = k
          · rw [q]; exact g2
          · exact hm.2.2 j (by omega)⟩
        refine ⟨f', n', a, b, c, fun res e => ?_⟩
        refine Ev.step (fun z => delta_longest.l1.eq_2 s r f n i k m i z) (Ev.ip (by omega) ?_)
        rw [wplus (by omega), decide_eq_true (show ((i + k : Nat) : Int) < (s.size : Int) by omega)]
        refine Ev.step (fun z => delta_longest.j3.eq_2 s r f n i k m i true z) (Ev.ip rfl ?_)
        rw [wplus (by omega), wnat (by omega)]
        exact Ev.ip (by omega) (Ev.ip (by omega) (Ev.ip (by omega) (Ev.ip (by omega) (Ev.ip g2 (go res e)))))
      · refine stop k hm (fun p h => ?_) ?_
        · by_cases q : p ≤ k
          · exact q
          · exact absurd (h.2.2 k (by omega)) g2
        · intro res e
          refine Ev.step (fun z => delta_longest.l1.eq_2 s r f n i k m i z) (Ev.ip (by omega) ?_)
          rw [wplus (by omega), decide_eq_true (show ((i + k : Nat) : Int) < (s.size : Int) by omega)]
          refine Ev.step (fun z => delta_longest.j3.eq_2 s r f n i k m i true z) (Ev.ip rfl ?_)
          rw [wplus (by omega), wnat (i := i) (by omega)]
          refine Ev.ip (by omega) (Ev.ip (by omega) (Ev.ip (by omega) (Ev.ip (by omega) (Ev.nn g2 ?_))))
          by_cases q : (k : Int) ≤ (n : Int)
          · refine Ev.ip q ?_
            obtain ⟨K, e⟩ := e
            exact ⟨K, fun z hz => (if_neg (by omega)).symm.trans (e z hz)⟩
          · exact Ev.nn q e
    · refine stop k hm (fun p h => by have := h.1; omega) ?_
      intro res e
      refine Ev.step (fun z => delta_longest.l1.eq_2 s r f n i k m i z) (Ev.ip (by omega) ?_)
      rw [wplus (by omega), decide_eq_false (show ¬ ((i + k : Nat) : Int) < (s.size : Int) by omega)]
      refine Ev.step (fun z => delta_longest.j3.eq_2 s r f n i k m i false z) (Ev.nn (by decide) ?_)
      rw [wnat (by omega)]
      exact e
theorem long_out (s r : ByteArray) (hs : s.size ≤ 1073741824) (hr : r.size ≤ 1073741824) (m : Nat) (hm : m ≤ s.size) (d : Nat) : ∀ i f n : Nat, i + d = m → mt s r f n →
    ∃ f' n' : Nat, Ev (fun z => delta_longest.l0 z s r f n m i) ((f' : Int), (n' : Int)) ∧ mt s r f' n' ∧ n ≤ n' ∧ ∀ q, i ≤ q → q < m → ∀ p, mt s r q p → p ≤ n' := by
  induction d with
  | zero =>
    intro i f n hi hg
    exact ⟨f, n, Ev.step (fun z => delta_longest.l0.eq_2 s r f n m i z) (Ev.nn (by omega) (Ev.now _)), hg, Nat.le_refl _, fun q h1 h2 => by omega⟩
  | succ d ih =>
    intro i f n hi hg
    by_cases g0 : r.size ≤ n
    · exact ⟨f, n, Ev.step (fun z => delta_longest.l0.eq_2 s r f n m i z) (Ev.ip (by omega) (Ev.ip (by omega) (Ev.now _))), hg, Nat.le_refl _, fun q _ _ p h => by have := h.2.1; omega⟩
    have gn : f + n ≤ s.size := hg.1
    -- what the place says of matches there, when it isn't looked at
    have skip : ∀ b, (∀ p, mt s r i p → p ≤ n) → (∀ res, Ev (fun z => delta_longest.j1 z s r f n i m i true) res → Ev (fun z => delta_longest.l0 z s r f n m i) res) → b = true →
        ∃ f' n' : Nat, Ev (fun z => delta_longest.l0 z s r f n m i) ((f' : Int), (n' : Int)) ∧ mt s r f' n' ∧ n ≤ n' ∧ ∀ q, i ≤ q → q < m → ∀ p, mt s r q p → p ≤ n' := by
      intro b hp go _
      obtain ⟨f', n', ev, a, c, e⟩ := ih (i + 1) f n (by omega) hg
      refine ⟨f', n', go _ (Ev.step (fun z => delta_longest.j1.eq_2 s r f n i m i true z) (Ev.ip rfl ?_)), a, c, fun q h1 h2 p h => ?_⟩
      · rw [wnat (by omega)]; exact ev
      · by_cases z : q = i
        · subst z; have := hp p h; omega
        · exact e q (by omega) h2 p h
    have e1 : wrap64 ((s.size : Int) - (i : Int)) = (s.size : Int) - i := w64 (by omega) (by omega)
    by_cases g1 : s.size - i ≤ n
    · refine skip true (fun p h => by have := h.1; omega) (fun res e => ?_) rfl
      refine Ev.step (fun z => delta_longest.l0.eq_2 s r f n m i z) ?_
      rw [e1]
      exact Ev.ip (by omega) (Ev.nn (by omega) (Ev.ip (by omega) e))
    by_cases g2 : bt s ((i + n : Nat) : Int) = bt r (n : Int)
    · obtain ⟨f1, n1, a, b, c, go⟩ := long_in s r hs hr m i f n (by omega) hg r.size 0 (by omega) ⟨by omega, by omega, fun j hj => by omega⟩
      obtain ⟨f', n', ev, a2, c2, e2⟩ := ih (i + 1) f1 n1 (by omega) a
      refine ⟨f', n', ?_, a2, by omega, fun q h1 h2 p h => ?_⟩
      · refine Ev.step (fun z => delta_longest.l0.eq_2 s r f n m i z) ?_
        rw [e1, wplus (by omega)]
        refine Ev.ip (by omega) (Ev.nn (by omega) (Ev.nn (by omega) (Ev.ip (by omega) (Ev.ip (by omega) (Ev.ip (by omega) (Ev.ip (by omega) ?_))))))
        rw [show (bt s ((i + n : Nat) : Int) != bt r (n : Int)) = false by rw [g2]; exact bne_self_eq_false _]
        exact Ev.step (fun z => delta_longest.j1.eq_2 s r f n i m i false z) (Ev.nn (by decide) (go _ ev))
      · by_cases z : q = i
        · subst z; have := c p h; omega
        · exact e2 q (by omega) h2 p h
    · refine skip true (fun p h => ?_) (fun res e => ?_) rfl
      · by_cases q : p ≤ n
        · exact q
        · exact absurd (h.2.2 n (by omega)) g2
      · refine Ev.step (fun z => delta_longest.l0.eq_2 s r f n m i z) ?_
        rw [e1, wplus (by omega)]
        refine Ev.ip (by omega) (Ev.nn (by omega) (Ev.nn (by omega) (Ev.ip (by omega) (Ev.ip (by omega) (Ev.ip (by omega) (Ev.ip (by omega) ?_))))))
        rw [show (bt s ((i + n : Nat) : Int) != bt r (n : Int)) = true from bne_iff_ne.2 g2]
        exact e
theorem longest_ev (s r : ByteArray) (hs : s.size ≤ 1073741824) (hr : r.size ≤ 1073741824) :
    ∃ f n : Nat, Ev (fun z => delta_longest.f z s r) ((f : Int), (n : Int)) ∧ mt s r f n ∧ ∀ q, q < s.size → ∀ p, mt s r q p → p ≤ n := by
  obtain ⟨f, n, ev, a, _, c⟩ := long_out s r hs hr s.size (Nat.le_refl _) s.size 0 0 0 (by omega) ⟨by omega, by omega, fun j hj => by omega⟩
  refine ⟨f, n, ?_, a, fun q h p hp => c q (by omega) h p hp⟩
  unfold delta_longest.f
  have e : mn (s.size : Int) 1073741824 = (s.size : Int) := by unfold mn; split <;> omega
  rw [e]
  exact ev
/-! ### plain -/
/-- A command that puts a text. -/
def plainL (l : List Int) : List Int := if l = [] then [] else putL l.length ++ 58 :: l
theorem put2 {n : Nat} (h : n < 4096) : (putL n).length ≤ 2 := (putL_long n 2 (by omega)).2 (by omega)
theorem plainL_len (l : List Int) (h : l.length < 4096) : (plainL l).length ≤ l.length + 3 ∧ (l = [] → plainL l = []) := by
  unfold plainL
  by_cases g : l = []
  · rw [if_pos g]; exact ⟨by simp, fun _ => rfl⟩
  · rw [if_neg g, List.length_append, List.length_cons]
    have := put2 h
    exact ⟨by omega, fun e => absurd e g⟩
theorem plain_says (src l : List Int) (h : l.length ≤ 1073741824) : Says src (plainL l) l := by
  unfold plainL
  by_cases g : l = []
  · rw [if_pos g, g]; exact Says.nil src
  · rw [if_neg g]
    exact Says.text src l (by cases l with | nil => exact absurd rfl g | cons a l => simp) h
theorem b58 : bytesOf ⟨#[58]⟩ = [58] := rfl
theorem b59 : bytesOf ⟨#[59]⟩ = [59] := rfl
theorem b64 : bytesOf ⟨#[64]⟩ = [64] := rfl
theorem b44 : bytesOf ⟨#[44]⟩ = [44] := rfl
theorem b10 : bytesOf ⟨#[10]⟩ = [10] := rfl
theorem plain_ev (u : ByteArray) (hu : u.size ≤ 100000) : ∃ r, Ev (fun k => delta_plain.f k u) r ∧ bytesOf r = plainL (bytesOf u) := by
  unfold delta_plain.f
  by_cases g : u.size = 0
  · have e : u = ⟨#[]⟩ := bytesOf_inj (by rw [List.eq_nil_of_length_eq_zero (l := bytesOf u) (by rw [size_len]; exact g)]; rfl)
    subst e
    exact ⟨⟨#[]⟩, Ev.ip (toList_nil.2 rfl) (Ev.now _), rfl⟩
  · have e : ¬ u.toList = ([] : List UInt8) := fun h => g (by rw [toList_nil.1 h]; rfl)
    have l := put6 (n := u.size) (by omega)
    have s1 : (⟨#[58]⟩ : ByteArray).size = 1 := rfl
    have hp : Ev (fun k => digit_Put.f k (u.size : Int)) (putB u.size) := by
      have := put_ev (n := (u.size : Int)) (by omega) (by omega)
      rw [Int.toNat_natCast] at this
      exact this
    refine ⟨catS (catS (putB u.size) ⟨#[58]⟩) u, Ev.nn e (Ev.bind hp (Ev.ip ?_ (Ev.ip ?_ (Ev.now _)))), ?_⟩
    · simp only [size_put]; omega
    · simp only [size_cat, size_put, s1]; omega
    · have ne : bytesOf u ≠ [] := fun h => g (by rw [← size_len, h]; rfl)
      unfold plainL
      rw [bytesOf_cat, bytesOf_cat, bytesOf_put, if_neg ne, size_len, b58, List.append_assoc]
      rfl
/-! ### Make -/
theorem putB_ev (n : Nat) (h : n ≤ 1073741824) : Ev (fun k => digit_Put.f k (n : Int)) (putB n) := by
  have := put_ev (n := (n : Int)) (by omega) (by omega)
  rw [Int.toNat_natCast] at this
  exact this
theorem take_parts (T : List Int) (a i n : Nat) (h : a ≤ i) : T.take (i + n) = T.take a ++ (((T.drop a).take (i - a)) ++ ((T.drop i).take n)) := by
  rw [List.take_add, ← List.append_assoc]
  congr 1
  conv => lhs; rw [show i = a + (i - a) by omega]
  rw [List.take_add]
theorem make_copy (s t : ByteArray) (hs : s.size ≤ 1000) (ht : t.size ≤ 300) (i done : Nat) (x : ByteArray) (cmds : List Int) (f n : Nat) (h0 : done ≤ i) (h1 : i < t.size)
    (hx : bytesOf x = putL t.size ++ 10 :: cmds) (hsay : Says (bytesOf s) cmds ((bytesOf t).take done)) (hc : cmds.length ≤ 100000) (hn : 16 ≤ n)
    (hl : Ev (fun k => delta_longest.f k s (cutS t i t.size)) ((f : Int), (n : Int))) (hm : mt s (cutS t i t.size) f n) :
    ∃ x' cmds', bytesOf x' = putL t.size ++ 10 :: cmds' ∧ Says (bytesOf s) cmds' ((bytesOf t).take (i + n)) ∧ i + n ≤ t.size ∧ cmds'.length ≤ cmds.length + (if done = i then 0 else (i - done) + 3) + 6 ∧
      ∀ res, Ev (fun k => delta_Make.l0 k s t x' ((i + n : Nat) : Int) ((i + n : Nat) : Int)) res → Ev (fun k => delta_Make.l0 k s t x done i) res := by
  have sr : (cutS t i t.size).size = t.size - i := size_cut (Nat.le_refl _)
  have m0 := hm.1
  have m1 := hm.2.1
  rw [sr] at m1
  have su : (cutS t done i).size = i - done := size_cut (by omega)
  obtain ⟨pl, epl, hpl⟩ := plain_ev (cutS t done i) (by omega)
  have hu : bytesOf (cutS t done i) = ((bytesOf t).drop done).take (i - done) := bytesOf_cut t done i
  have lu : (bytesOf (cutS t done i)).length = i - done := by rw [size_len, su]
  have lpl := plainL_len (bytesOf (cutS t done i)) (by omega)
  have spl : pl.size = (plainL (bytesOf (cutS t done i))).length := by rw [← size_len, hpl]
  have ln := put2 (n := n) (by omega)
  have lf := put2 (n := f) (by omega)
  have lt := put2 (n := t.size) (by omega)
  have s1 : (⟨#[64]⟩ : ByteArray).size = 1 := rfl
  have s2 : (⟨#[44]⟩ : ByteArray).size = 1 := rfl
  have sx : x.size = (putL t.size).length + (cmds.length + 1) := by rw [← size_len, hx, List.length_append, List.length_cons]
  refine ⟨catS x (catS (catS (catS (catS pl (putB n)) ⟨#[64]⟩) (putB f)) ⟨#[44]⟩), cmds ++ (plainL (bytesOf (cutS t done i)) ++ (putL n ++ 64 :: (putL f ++ [44]))), ?_, ?_, by omega, ?_, ?_⟩
  · simp only [bytesOf_cat, hx, hpl, bytesOf_put, b64, b44, List.append_assoc, List.cons_append, List.nil_append]
  · rw [take_parts (bytesOf t) done i n h0]
    refine hsay.cat (Says.cat ?_ ?_)
    · rw [← hu]; exact plain_says _ _ (by omega)
    · have e : ((bytesOf t).drop i).take n = ((bytesOf s).drop f).take n := by
        have eT : ((bytesOf t).drop i).take (t.size - i) = (bytesOf t).drop i := List.take_of_length_le (by rw [List.length_drop, size_len]; omega)
        rw [mt_take hm, bytesOf_cut, eT]
      rw [e]
      exact Says.copy _ n f (by omega) (by omega) (by omega) (by rw [size_len]; omega)
  · simp only [List.length_append, List.length_cons, List.length_nil]
    by_cases g : done = i
    · have ne : bytesOf (cutS t done i) = [] := List.eq_nil_of_length_eq_zero (by omega)
      rw [if_pos g, lpl.2 ne]
      simp only [List.length_nil]
      omega
    · rw [if_neg g]; omega
  · intro res e
    refine Ev.step (fun k => delta_Make.l0.eq_2 s t x done i k) (Ev.ip (by omega) (Ev.ip (by omega) (Ev.ip (by omega) ?_)))
    rw [Int.toNat_natCast, Int.toNat_natCast]
    refine Ev.bind hl (Ev.nn (by omega) (Ev.ip (by omega) (Ev.ip (by omega) (Ev.bind epl (Ev.bind (putB_ev n (by omega)) (Ev.ip ?_ (Ev.ip ?_ (Ev.bind (putB_ev f (by omega)) (Ev.ip ?_ (Ev.ip ?_ (Ev.ip ?_ ?_)))))))))))
    · simp only [size_cat, size_put, s1, s2]; omega
    · simp only [size_cat, size_put, s1, s2]; omega
    · simp only [size_cat, size_put, s1, s2]; omega
    · simp only [size_cat, size_put, s1, s2]; omega
    · simp only [size_cat, size_put, s1, s2]; omega
    · dsimp only
      rw [wplus (by omega)]
      exact e
theorem make_loop (s t : ByteArray) (hs : s.size ≤ 1000) (ht : t.size ≤ 300) (d : Nat) : ∀ (i done : Nat) (x : ByteArray) (cmds : List Int), t.size - i ≤ d → done ≤ i → i ≤ t.size →
    bytesOf x = putL t.size ++ 10 :: cmds → Says (bytesOf s) cmds ((bytesOf t).take done) → cmds.length ≤ 1000 + 10 * done →
    ∃ r cmds', Ev (fun k => delta_Make.l0 k s t x done i) r ∧ bytesOf r = whole cmds' (bytesOf t) [] ∧ Says (bytesOf s) cmds' (bytesOf t) ∧ cmds'.length + done ≤ cmds.length + t.size + 3 := by
  have stop : ∀ (done : Nat) (x : ByteArray) (cmds : List Int), done ≤ t.size → bytesOf x = putL t.size ++ 10 :: cmds → Says (bytesOf s) cmds ((bytesOf t).take done) → cmds.length ≤ 1000 + 10 * done →
      ∃ r cmds', Ev (fun k => delta_Make.l0 k s t x done t.size) r ∧ bytesOf r = whole cmds' (bytesOf t) [] ∧ Says (bytesOf s) cmds' (bytesOf t) ∧ cmds'.length + done ≤ cmds.length + t.size + 3 := by
    intro done x cmds h0 hx hsay hc
    have su : (cutS t done t.size).size = t.size - done := size_cut (Nat.le_refl _)
    obtain ⟨pl, epl, hpl⟩ := plain_ev (cutS t done t.size) (by omega)
    have hu : bytesOf (cutS t done t.size) = (bytesOf t).drop done := by rw [bytesOf_cut, List.take_of_length_le (by rw [List.length_drop, size_len]; omega)]
    have lu : (bytesOf (cutS t done t.size)).length = t.size - done := by rw [size_len, su]
    have lpl := plainL_len (bytesOf (cutS t done t.size)) (by omega)
    have spl : pl.size = (plainL (bytesOf (cutS t done t.size))).length := by rw [← size_len, hpl]
    have hk := chk_range (bytesOf t)
    have lk := put6 (n := (chk (bytesOf t)).toNat) (by omega)
    have lt := put2 (n := t.size) (by omega)
    have sx : x.size = (putL t.size).length + (cmds.length + 1) := by rw [← size_len, hx, List.length_append, List.length_cons]
    have s1 : (⟨#[59]⟩ : ByteArray).size = 1 := rfl
    refine ⟨catS (catS (catS x pl) (putB (chk (bytesOf t)).toNat)) ⟨#[59]⟩, cmds ++ plainL (bytesOf (cutS t done t.size)), ?_, ?_, ?_, ?_⟩
    · refine Ev.step (fun k => delta_Make.l0.eq_2 s t x done t.size k) (Ev.nn (by omega) (Ev.ip (by omega) (Ev.ip (by omega) ?_)))
      rw [Int.toNat_natCast]
      have hput : Ev (fun k => digit_Put.f k (chk (bytesOf t))) (putB (chk (bytesOf t)).toNat) := put_ev (by omega) (by omega)
      refine Ev.bind epl (Ev.ip ?_ (Ev.bind (check_ev t (by omega)) (Ev.bind hput (Ev.ip ?_ (Ev.ip ?_ (Ev.now _))))))
      · omega
      · simp only [size_cat, size_put, s1]; omega
      · simp only [size_cat, size_put, s1]; omega
    · unfold whole
      simp only [bytesOf_cat, hx, hpl, bytesOf_put, b59, List.append_assoc, List.cons_append, size_len]
    · have e : bytesOf t = (bytesOf t).take done ++ bytesOf (cutS t done t.size) := by rw [hu, List.take_append_drop]
      conv => rhs; rw [e]
      exact hsay.cat (plain_says _ _ (by omega))
    · rw [List.length_append]; omega
  induction d with
  | zero =>
    intro i done x cmds h h0 h1 hx hsay hc
    have e : i = t.size := by omega
    subst e
    exact stop done x cmds h0 hx hsay hc
  | succ d ih =>
    intro i done x cmds h h0 h1 hx hsay hc
    by_cases g : i = t.size
    · subst g
      exact stop done x cmds h0 hx hsay hc
    · have sr : (cutS t i t.size).size = t.size - i := size_cut (Nat.le_refl _)
      obtain ⟨f, n, hl, hm, _⟩ := longest_ev s (cutS t i t.size) (by omega) (by omega)
      by_cases q : n < 16
      · obtain ⟨r, cmds', ev, a, b, c⟩ := ih (i + 1) done x cmds (by omega) (by omega) (by omega) hx hsay hc
        refine ⟨r, cmds', ?_, a, b, c⟩
        refine Ev.step (fun k => delta_Make.l0.eq_2 s t x done i k) (Ev.ip (by omega) (Ev.ip (by omega) (Ev.ip (by omega) ?_)))
        rw [Int.toNat_natCast]
        refine Ev.bind hl (Ev.ip (by omega) ?_)
        rw [wnat (by omega)]
        exact ev
      · obtain ⟨x', cmds', hx', hs', hi', hc', go⟩ := make_copy s t hs ht i done x cmds f n h0 (by omega) hx hsay (by omega) (by omega) hl hm
        have hc2 : cmds'.length + done ≤ cmds.length + i + 9 := by
          by_cases z : done = i
          · rw [if_pos z] at hc'; omega
          · rw [if_neg z] at hc'; omega
        obtain ⟨r, cmds2, ev, a, b, c⟩ := ih (i + n) (i + n) x' cmds' (by omega) (by omega) (by omega) hx' hs' (by omega)
        exact ⟨r, cmds2, go _ ev, a, b, by omega⟩
theorem make_ev (s t : ByteArray) (hs : s.size ≤ 1000) (ht : t.size ≤ 300) :
    ∃ r cmds, Ev (fun k => delta_Make.f k s t) r ∧ bytesOf r = whole cmds (bytesOf t) [] ∧ Says (bytesOf s) cmds (bytesOf t) ∧ r.size ≤ t.size + 13 ∧ ∀ p, mt s t 0 p → 16 ≤ p → r.size + p ≤ t.size + 20 := by
  have lt := put2 (n := t.size) (by omega)
  have hk := chk_range (bytesOf t)
  have lk := put6 (n := (chk (bytesOf t)).toNat) (by omega)
  have s1 : (⟨#[10]⟩ : ByteArray).size = 1 := rfl
  have hx : bytesOf (catS (putB t.size) ⟨#[10]⟩) = putL t.size ++ 10 :: [] := by rw [bytesOf_cat, bytesOf_put, b10]
  have h0 : Says (bytesOf s) [] ((bytesOf t).take 0) := by rw [List.take_zero]; exact Says.nil _
  have start : ∀ r, Ev (fun k => delta_Make.l0 k s t (catS (putB t.size) ⟨#[10]⟩) 0 0) r → Ev (fun k => delta_Make.f k s t) r := by
    intro r e
    unfold delta_Make.f
    exact Ev.nn (by omega) (Ev.bind (putB_ev t.size (by omega)) (Ev.ip (by simp only [size_put]; omega) e))
  have sz : ∀ (r : ByteArray) (cmds : List Int), bytesOf r = whole cmds (bytesOf t) [] → r.size ≤ 10 + cmds.length := by
    intro r cmds h
    rw [← size_len, h]
    unfold whole
    rw [size_len]
    simp only [List.length_append, List.length_cons, List.length_nil]
    omega
  have sr : cutS t 0 t.size = t := cut_all t
  by_cases g : 16 ≤ t.size
  · obtain ⟨f, n, hl, hm, best⟩ := longest_ev s t (by omega) (by omega)
    by_cases q : 16 ≤ n
    · obtain ⟨x', cmds', hx', hs', hi', hc', go⟩ := make_copy s t hs ht 0 0 (catS (putB t.size) ⟨#[10]⟩) [] f n (Nat.le_refl _) (by omega) hx h0 (by simp) q (by rw [sr]; exact hl) (by rw [sr]; exact hm)
      rw [if_pos rfl, List.length_nil] at hc'
      simp only [Nat.zero_add] at hs' hi' go
      obtain ⟨r, cmds2, ev, a, b, c⟩ := make_loop s t hs ht t.size n n x' cmds' (by omega) (Nat.le_refl _) hi' hx' hs' (by omega)
      have z := sz r cmds2 a
      refine ⟨r, cmds2, start _ (go _ ev), a, b, by omega, fun p hp h16 => ?_⟩
      have := best 0 (by have := hp.1; omega) p hp
      omega
    · obtain ⟨r, cmds2, ev, a, b, c⟩ := make_loop s t hs ht t.size 0 0 (catS (putB t.size) ⟨#[10]⟩) [] (by omega) (Nat.le_refl _) (by omega) hx h0 (by simp)
      have z := sz r cmds2 a
      rw [List.length_nil] at c
      refine ⟨r, cmds2, start _ ev, a, b, by omega, fun p hp h16 => ?_⟩
      have := best 0 (by have := hp.1; omega) p hp
      omega
  · obtain ⟨r, cmds2, ev, a, b, c⟩ := make_loop s t hs ht t.size 0 0 (catS (putB t.size) ⟨#[10]⟩) [] (by omega) (Nat.le_refl _) (by omega) hx h0 (by simp)
    have z := sz r cmds2 a
    rw [List.length_nil] at c
    refine ⟨r, cmds2, start _ ev, a, b, by omega, fun p hp h16 => ?_⟩
    have := hp.2.1
    omega
end Go.Proofs.Ytcjkichimndioab.B
