/- What squeeze.Press makes, in plain words: pieces that Expand makes the text of; not many. -/
import Derived.Test.YtjiafbckfnglmaaPExpandMore
import Derived.Test.YtjiafbckfnglmaaPress
set_option linter.unusedVariables false
set_option linter.unusedSimpArgs false
namespace Go.Proofs.Ytjiafbckfnglmaa.B
open Go.RowKit Go.Proofs.Ytjiafbckfnglmaa.PW Go.Proofs.Ytjiafbckfnglmaa.Given Go.Proofs.Ytjiafbckfnglmaa.Q Go.Proofs.YtjiafbckfnglmaaW.PrintWords Go.Proofs.YtjiafbckfnglmaaW.PrintMore
/-- Pieces of a text as it stands. -/
def plL : Nat → List Int → List Int
  | 0, _ => []
  | _ + 1, [] => []
  | f + 1, a :: l => (((min (l.length + 1) 128) - 1 : Nat) : Int) :: ((a :: l).take 128 ++ plL f ((a :: l).drop 128))
theorem pl_cons (f : Nat) (a : Int) (l : List Int) : plL (f + 1) (a :: l) = (((min (l.length + 1) 128) - 1 : Nat) : Int) :: ((a :: l).take 128 ++ plL f ((a :: l).drop 128)) := rfl
theorem pl_ex (size f : Nat) : ∀ (l R o : List Int), l.length ≤ f * 128 → o.length + l.length ≤ size → exG size (plL f l ++ R) o = exG size R (o ++ l) := by
  induction f with
  | zero =>
    intro l R o h _
    have : l = [] := List.eq_nil_of_length_eq_zero (by omega)
    subst this
    simp [plL]
  | succ f ih =>
    intro l R o h hs
    cases l with
    | nil => simp [plL]
    | cons a l =>
      have ht : ((a :: l).take 128).length = min (l.length + 1) 128 := by rw [List.length_take, List.length_cons]; omega
      have hd : ((a :: l).drop 128).length = l.length + 1 - 128 := by simp
      simp only [List.length_cons] at h hs
      unfold plL
      rw [List.cons_append, List.append_assoc, ← ht, exG_piece size (by rw [ht]; omega) (by rw [ht]; omega) _ _ (by rw [ht]; omega), ih _ _ _ (by rw [hd]; omega) (by rw [List.length_append, ht, hd]; omega), List.append_assoc, List.take_append_drop]
theorem pl_len (f : Nat) : ∀ l : List Int, (plL f l).length ≤ l.length + (l.length + 127) / 128 := by
  induction f with
  | zero => intro l; simp [plL]
  | succ f ih =>
    intro l
    cases l with
    | nil => simp [plL]
    | cons a l =>
      have ht : ((a :: l).take 128).length = min (l.length + 1) 128 := by rw [List.length_take, List.length_cons]; omega
      have hd : ((a :: l).drop 128).length = l.length + 1 - 128 := by simp
      have := ih ((a :: l).drop 128)
      rw [hd] at this
      unfold plL
      rw [List.length_cons, List.length_append, ht, List.length_cons]
      omega
theorem pl_nil (f : Nat) : plL f [] = [] := by cases f <;> rfl
theorem getD_app_right {l m : List Int} {i : Nat} (h : l.length ≤ i) : (l ++ m).getD i 0 = m.getD (i - l.length) 0 := by
  simp [List.getD_eq_getElem?_getD, List.getElem?_append_right h]
theorem take_succ_getD {B : List Int} {i : Nat} (h : i < B.length) : B.take (i + 1) = B.take i ++ [B.getD i 0] := by
  rw [List.take_succ_eq_append_getElem h, List.getD_eq_getElem?_getD, List.getElem?_eq_getElem h]; rfl
theorem getD_take_lt {B : List Int} {i j : Nat} (h : j < i) : (B.take i).getD j 0 = B.getD j 0 := by
  simp [List.getD_eq_getElem?_getD, List.getElem?_take_of_lt h]
theorem rep_take (B : List Int) (d : Nat) (h1 : 1 ≤ d) (n : Nat) : ∀ i, i + n ≤ B.length → d ≤ i → (∀ j, j < n → B.getD (i + j - d) 0 = B.getD (i + j) 0) → rep n d (B.take i) = B.take (i + n) := by
  induction n with
  | zero => intro i _ _ _; rfl
  | succ n ih =>
    intro i h h2 hj
    unfold rep
    have hl : (B.take i).length = i := by rw [List.length_take]; omega
    have h0 := hj 0 (by omega)
    rw [Nat.add_zero] at h0
    rw [hl, getD_take_lt (by omega), h0, ← take_succ_getD (by omega), ih (i + 1) (by omega) (by omega) (fun j h => by have := hj (j + 1) (by omega); rw [show i + 1 + j = i + (j + 1) by omega]; exact this)]
    congr 1
    omega
theorem mrun_eq (s : ByteArray) (p i : Nat) : ∀ k n j, n ≤ j → j < mrun s p i k n → bt s ((p : Int) + j) = bt s ((i : Int) + j)
  | 0, n, j, h, h' => by unfold mrun at h'; omega
  | k + 1, n, j, h, h' => by
    unfold mrun at h'
    split at h'
    · rename_i g
      by_cases e : n = j
      · subst e; exact g.2.2
      · exact mrun_eq s p i k (n + 1) j (by omega) h'
    · omega
theorem bytesOf_ext (s : ByteArray) (a b : Nat) : bytesOf (s.extract a b) = ((bytesOf s).drop a).take (b - a) := bytesOf_cut s a b
theorem bt_getD (s : ByteArray) (i j : Nat) : bt s ((i : Int) + (j : Int)) = (bytesOf s).getD (i + j) 0 := by
  rw [← bt_nat]; congr 1
theorem key_eq {s : ByteArray} {p i : Nat} (h : s.extract p (p + 4) = s.extract i (i + 4)) (j : Nat) (hj : j < 4) : (bytesOf s).getD (p + j) 0 = (bytesOf s).getD (i + j) 0 := by
  have h' := congrArg bytesOf h
  rw [bytesOf_ext, bytesOf_ext, show p + 4 - p = 4 by omega, show i + 4 - i = 4 by omega] at h'
  have h2 := congrArg (fun l : List Int => l.getD j 0) h'
  simpa [List.getD_eq_getElem?_getD, List.getElem?_take_of_lt hj, List.getElem?_drop] using h2
theorem bytesOf_again {n d : Nat} (h1 : 4 ≤ n) (h2 : n ≤ 130) (h3 : d < 65536) : bytesOf (again n d) = [((125 + n : Nat) : Int), ((d / 256 : Nat) : Int), ((d % 256 : Nat) : Int)] := by
  unfold again
  rw [show (((125 + n : Nat) : Int) % 256) = ((125 + n : Nat) : Int) by omega, show (((d / 256 : Nat) : Int) % 256) = ((d / 256 : Nat) : Int) by omega, show ((d : Int) % 256) = ((d % 256 : Nat) : Int) by omega]
  refine bytesOf_nums fun x hx => ?_
  simp only [List.mem_cons, List.not_mem_nil, or_false] at hx
  rcases hx with rfl | rfl | rfl <;> omega
/-- A piece that reaches back as far as two bytes say. -/
theorem exG_again (size : Nat) {n d : Nat} (h1 : 4 ≤ n) (h2 : n ≤ 130) (R o : List Int) (hs : o.length + n ≤ size) (hd : 1 ≤ d) (hd2 : d ≤ o.length) :
    exG size (((125 + n : Nat) : Int) :: ((d / 256 : Nat) : Int) :: ((d % 256 : Nat) : Int) :: R) o = exG size R (rep n d o) := by
  have e : 125 + n - 125 = n := by omega
  have ed : (((d / 256 : Nat) : Int) * 256 + ((d % 256 : Nat) : Int)) = (d : Int) := by omega
  rw [exG_back size (by omega), e, ed, if_neg (by omega), Int.toNat_natCast]
def Plains (F : ByteArray → Option ByteArray) : Prop := ∀ x : ByteArray, x.size ≤ 60000 → ∃ b, F x = some b ∧ bytesOf b = plL 999 (bytesOf x)
def MGood (s : ByteArray) (M : ByteArray → Option Nat) (i : Nat) : Prop := ∀ k p, M k = some p → p < i ∧ p + 4 ≤ s.size ∧ k = s.extract p (p + 4)
theorem MGood.upd {s : ByteArray} {M : ByteArray → Option Nat} {i j : Nat} (h : MGood s M i) (hi : i + 4 ≤ s.size) (hj : i < j) : MGood s (upd M (s.extract i (i + 4)) i) j := by
  intro k p hk
  unfold Given.upd at hk
  split at hk
  · rename_i e
    injection hk with hk
    subst hk
    exact ⟨hj, hi, e⟩
  · obtain ⟨h1, h2, h3⟩ := h k p hk
    exact ⟨by omega, h2, h3⟩
theorem drop_take_cut (B : List Int) (a b : Nat) (h : a ≤ b) : B.take a ++ (B.drop a).take (b - a) = B.take b := by
  have : b = a + (b - a) := by omega
  conv => rhs; rw [this, List.take_add]
theorem press_spec (s : ByteArray) (hs : s.size ≤ 60000) (hF : Plains (V.squeeze_plains.f 1000)) (hd : List Int) (hh : hd.length ≤ 100) (t : Nat) : ∀ (out : ByteArray) (M : ByteArray → Option Nat) (done i : Nat) (P : List Int),
    bytesOf out = hd ++ P → (∀ R, exG s.size (P ++ R) [] = exG s.size R ((bytesOf s).take done)) → P.length ≤ done + done / 128 → done ≤ i → i ≤ s.size → MGood s M i → s.size - i < t →
    ∃ r P', pressL s t out M done i = some r ∧ bytesOf r = hd ++ P' ∧ exG s.size P' [] = some (bytesOf s) ∧ P'.length ≤ s.size + s.size / 128 + 1 := by
  induction t with
  | zero => intro out M done i P _ _ _ _ _ _ h; omega
  | succ t ih =>
    intro out M done i P ho hP hl h1 h2 hM ht
    have hB : (bytesOf s).length = s.size := size_len s
    have hos : out.size = hd.length + P.length := by rw [← size_len, ho, List.length_append]
    unfold pressL
    by_cases h4 : i + 4 ≤ s.size
    · rw [if_pos h4]
      cases hk : M (s.extract i (i + 4)) with
      | none =>
        dsimp only
        exact ih out _ done (i + 1) P ho hP hl (by omega) (by omega) (hM.upd h4 (by omega)) (by omega)
      | some p =>
        obtain ⟨hp1, hp2, hp3⟩ := hM _ _ hk
        dsimp only
        have cb : bytesOf (s.extract done i) = ((bytesOf s).drop done).take (i - done) := bytesOf_ext s done i
        have cl : (bytesOf (s.extract done i)).length = i - done := by rw [cb, List.length_take, List.length_drop]; omega
        obtain ⟨b, hb, hbb⟩ := hF (s.extract done i) (by rw [← size_len, cl]; omega)
        have bl := pl_len 999 (bytesOf (s.extract done i))
        rw [← hbb, cl] at bl
        rw [hb, Option.bind_some, if_pos ⟨hp1, by rw [← size_len b]; omega⟩]
        have g := mrun_ge s p i 126 4
        obtain ⟨g1, g2⟩ := mrun_le s p i 126 4 (by omega) h4
        have geq := mrun_eq s p i 126 4
        generalize mrun s p i 126 4 = n at g g1 g2 geq
        have ag := bytesOf_again g g1 (d := i - p) (by omega)
        refine ih _ _ (i + n) (i + n) (P ++ (plL 999 (bytesOf (s.extract done i)) ++ bytesOf (again n (i - p)))) ?_ ?_ ?_ (Nat.le_refl _) g2 (hM.upd h4 (by omega)) (by omega)
        · have e1 := bytesOf_cat (out ++ b) (again n (i - p))
          have e2 := bytesOf_cat out b
          unfold catS at e1 e2
          rw [e1, e2, ho, hbb]
          simp only [List.append_assoc]
        · intro R
          have tl : ((bytesOf s).take i).length = i := by rw [List.length_take]; omega
          rw [List.append_assoc, hP, List.append_assoc, pl_ex _ _ _ _ _ (by rw [cl]; omega) (by rw [cl, List.length_take]; omega), cb, drop_take_cut _ _ _ h1, ag]
          simp only [List.cons_append, List.nil_append]
          rw [exG_again _ g g1 _ _ (by rw [tl]; exact g2) (by omega) (by rw [tl]; omega), rep_take _ _ (by omega) _ _ (by omega) (by omega)]
          intro j hj
          by_cases j4 : j < 4
          · have := key_eq hp3.symm j j4
            rw [show i + j - (i - p) = p + j by omega]
            exact this
          · have := geq j (by omega) hj
            rw [bt_getD, bt_getD] at this
            rw [show i + j - (i - p) = p + j by omega]
            exact this
        · rw [List.length_append, List.length_append, ag]
          rw [hbb] at bl
          simp only [List.length_cons, List.length_nil]
          omega
    · rw [if_neg h4]
      have cb : bytesOf (s.extract done s.size) = (bytesOf s).drop done := by rw [bytesOf_ext, List.take_of_length_le (by rw [List.length_drop]; omega)]
      have cl : (bytesOf (s.extract done s.size)).length = s.size - done := by rw [cb, List.length_drop]; omega
      obtain ⟨b, hb, hbb⟩ := hF (s.extract done s.size) (by rw [← size_len, cl]; omega)
      have bl := pl_len 999 (bytesOf (s.extract done s.size))
      rw [← hbb, cl] at bl
      rw [hb, Option.bind_some, if_pos (by rw [← size_len b]; omega)]
      refine ⟨_, P ++ plL 999 (bytesOf (s.extract done s.size)), rfl, ?_, ?_, ?_⟩
      · have e2 := bytesOf_cat out b
        unfold catS at e2
        rw [e2, ho, hbb, List.append_assoc]
      · rw [hP]
        have e := pl_ex s.size 999 (bytesOf (s.extract done s.size)) [] ((bytesOf s).take done) (by rw [cl]; omega) (by rw [cl, List.length_take]; omega)
        rw [List.append_nil] at e
        rw [e, cb, List.take_append_drop, exG_nil, if_pos hB]
      · rw [List.length_append]
        rw [hbb] at bl
        omega
/-! ### a text of one byte -/
theorem const_key {s : ByteArray} {c : Int} (hc : bytesOf s = List.replicate s.size c) {i : Nat} (h : i + 4 ≤ s.size) : bytesOf (s.extract i (i + 4)) = List.replicate 4 c := by
  rw [bytesOf_ext, hc, show i + 4 - i = 4 by omega, List.drop_replicate, List.take_replicate]
  congr 1
  omega
theorem const_keys {s : ByteArray} {c : Int} (hc : bytesOf s = List.replicate s.size c) {i j : Nat} (h : i + 4 ≤ s.size) (h' : j + 4 ≤ s.size) : s.extract i (i + 4) = s.extract j (j + 4) :=
  bytesOf_inj (by rw [const_key hc h, const_key hc h'])
theorem const_bt {s : ByteArray} {c : Int} (hc : bytesOf s = List.replicate s.size c) {i : Nat} (j : Nat) (h : i + j < s.size) : bt s ((i : Int) + (j : Int)) = c := by
  rw [bt_getD, hc, List.getD_eq_getElem?_getD, List.getElem?_replicate, if_pos h]; rfl
theorem mrun_const {s : ByteArray} {c : Int} (hc : bytesOf s = List.replicate s.size c) {p i : Nat} (hp : p < i) : ∀ k n, n + k = 130 → i + n ≤ s.size → mrun s p i k n = min 130 (s.size - i)
  | 0, n, h, h' => by unfold mrun; omega
  | k + 1, n, h, h' => by
    unfold mrun
    by_cases e : i + n < s.size
    · rw [if_pos ⟨by omega, e, by rw [const_bt hc n (by omega), const_bt hc n (by omega)]⟩]
      exact mrun_const hc hp k (n + 1) (by omega) (by omega)
    · rw [if_neg (fun g => e g.2.1)]
      omega
theorem again_size (n d : Nat) : (again n d).size = 3 := rfl
theorem const_loop (s : ByteArray) (hs : s.size ≤ 60000) (hF : Plains (V.squeeze_plains.f 1000)) (c : Int) (hc : bytesOf s = List.replicate s.size c) (t : Nat) : ∀ (out : ByteArray) (M : ByteArray → Option Nat) (i p : Nat) (r : ByteArray),
    i ≤ s.size → p < i → (i + 4 ≤ s.size → M (s.extract i (i + 4)) = some p) → pressL s t out M i i = some r → r.size ≤ out.size + (if i = s.size then 0 else 4) + 3 * ((s.size - i) / 130) := by
  induction t with
  | zero => intro out M i p r _ _ _ h; cases h
  | succ t ih =>
    intro out M i p r h1 h2 hM h
    unfold pressL at h
    by_cases h4 : i + 4 ≤ s.size
    · rw [if_pos h4, hM h4] at h
      dsimp only at h
      obtain ⟨b, hb, hbb⟩ := hF (s.extract i i) (by rw [← size_len, bytesOf_ext, Nat.sub_self]; simp)
      have hb0 : b.size = 0 := by rw [← size_len, hbb, bytesOf_ext, Nat.sub_self, List.take_zero, pl_nil]; rfl
      rw [hb, Option.bind_some, mrun_const hc h2 126 4 (by omega) h4] at h
      split at h
      · have hk := ih _ _ (i + min 130 (s.size - i)) i r (by omega) (by omega) (fun g => by unfold Given.upd; rw [if_pos (const_keys hc g h4)]) h
        have : ((out ++ b) ++ again (min 130 (s.size - i)) (i - p)).size = out.size + 3 := by
          rw [ByteArray.size_append, ByteArray.size_append, hb0, again_size]
        rw [this] at hk
        by_cases e : s.size - i ≤ 130
        · rw [if_pos (by omega)] at hk
          rw [if_neg (by omega)]
          omega
        · rw [if_neg (by omega)]
          split at hk <;> omega
      · cases h
    · rw [if_neg h4] at h
      obtain ⟨b, hb, hbb⟩ := hF (s.extract i s.size) (by rw [← size_len, bytesOf_ext, List.length_take, List.length_drop, size_len]; omega)
      have cl : (bytesOf (s.extract i s.size)).length = s.size - i := by rw [bytesOf_ext, List.length_take, List.length_drop, size_len]; omega
      have bl := pl_len 999 (bytesOf (s.extract i s.size))
      rw [← hbb, cl, size_len] at bl
      rw [hb, Option.bind_some] at h
      split at h
      · injection h with h
        rw [← h, ByteArray.size_append]
        split <;> omega
      · cases h
theorem press_const (s : ByteArray) (h1 : 100 ≤ s.size) (h2 : s.size ≤ 400) (hF : Plains (V.squeeze_plains.f 1000)) (hD : V.digit_Dec.f 100 (s.size : Int) = some (decB s.size)) (c : Int) (hc : bytesOf s = List.replicate s.size c) (r : ByteArray) (h : squeeze_Press.f s = some r) :
    r.size ≤ 12 + 3 * (s.size / 130) := by
  unfold squeeze_Press.f at h
  rw [if_neg (by omega), hD, Option.bind_some] at h
  have dl : (decB s.size).size = 3 := by
    rw [size_dec, decL_ge (by omega), decL_ge (by omega), decL_lt (by omega)]; rfl
  rw [if_pos (by omega)] at h
  have z : (decB s.size ++ (⟨#[59]⟩ : ByteArray)).size = 4 := by rw [ByteArray.size_append, dl]; rfl
  generalize decB s.size ++ (⟨#[59]⟩ : ByteArray) = hd at h z
  rw [show (60001 : Nat) = 59999 + 1 + 1 from rfl] at h
  rw [pressL, if_pos (by omega)] at h
  dsimp only at h
  rw [pressL, if_pos (by omega)] at h
  have k0 : Given.upd (fun _ => none) (s.extract 0 (0 + 4)) 0 (s.extract (0 + 1) (0 + 1 + 4)) = some 0 := by
    unfold Given.upd; rw [if_pos (const_keys hc (by omega) (by omega))]
  rw [k0] at h
  dsimp only at h
  obtain ⟨b, hb, hbb⟩ := hF (s.extract 0 (0 + 1)) (by rw [← size_len, bytesOf_ext, List.length_take, List.length_drop, size_len]; omega)
  have cl : (bytesOf (s.extract 0 (0 + 1))).length = 1 := by rw [bytesOf_ext, List.length_take, List.length_drop, size_len]; omega
  have bl := pl_len 999 (bytesOf (s.extract 0 (0 + 1)))
  rw [← hbb, cl, size_len] at bl
  rw [hb, Option.bind_some, mrun_const hc (by omega) 126 4 (by omega) (by omega)] at h
  split at h
  · have := const_loop s (by omega) hF c hc _ _ _ (0 + 1 + min 130 (s.size - (0 + 1))) (0 + 1) r (by omega) (by omega) (fun g => by unfold Given.upd; rw [if_pos (const_keys hc g (by omega))]) h
    rw [ByteArray.size_append, ByteArray.size_append, again_size, z] at this
    split at this <;> omega
  · cases h
/-! ### the printed pieces, and the size ahead of them -/
theorem mn_eq (n : Nat) : mn (n : Int) 128 = ((min n 128 : Nat) : Int) := by unfold mn; omega
theorem plains_loop (t : Nat) (k : Nat) : ∀ (x o : ByteArray), x.size ≤ k * 128 → x.size ≤ 60000 → o.size + 2 * x.size ≤ 1000000 →
    ∃ b, squeeze_plains.l0 (k + t + 1) x o = some b ∧ bytesOf b = bytesOf o ++ plL (k + t) (bytesOf x) := by
  induction k with
  | zero =>
    intro x o h _ _
    have hx : bytesOf x = [] := List.eq_nil_of_length_eq_zero (by rw [size_len]; omega)
    refine ⟨o, ?_, by rw [hx, pl_nil, List.append_nil]⟩
    rw [squeeze_plains.l0.eq_2, if_neg (by omega)]
  | succ k ih =>
    intro x o h h2 h3
    by_cases e : x.size = 0
    · have hx : bytesOf x = [] := List.eq_nil_of_length_eq_zero (by rw [size_len]; omega)
      refine ⟨o, ?_, by rw [hx, pl_nil, List.append_nil]⟩
      rw [squeeze_plains.l0.eq_2, if_neg (by omega)]
    · have hm : (((mn (x.size : Int) 128) - 1) % 256 : Int) = ((min x.size 128 - 1 : Nat) : Int) := by rw [mn_eq]; omega
      have hz : (mn (x.size : Int) 128 : Int).toNat = min x.size 128 := by rw [mn_eq]; omega
      have one : bytesOf (strOfNums [((min x.size 128 - 1 : Nat) : Int)]) = [((min x.size 128 - 1 : Nat) : Int)] := bytesOf_nums fun y hy => by rw [List.mem_singleton] at hy; omega
      have c1 : (cutS x 0 (min x.size 128)).size = min x.size 128 := by rw [size_cut (by omega)]; omega
      have c2 : (cutS x (min x.size 128) x.size).size = x.size - min x.size 128 := size_cut (Nat.le_refl _)
      have s1 : (strOfNums [((min x.size 128 - 1 : Nat) : Int)]).size = 1 := by rw [size_nums]; rfl
      have e' : k + 1 + t = k + t + 1 := by omega
      obtain ⟨b, hb, hbb⟩ := ih (cutS x (min x.size 128) x.size) (catS o (catS (strOfNums [((min x.size 128 - 1 : Nat) : Int)]) (cutS x 0 (min x.size 128)))) (by rw [c2]; omega) (by rw [c2]; omega) (by rw [size_cat, size_cat, c1, c2, s1]; omega)
      refine ⟨b, ?_, ?_⟩
      · rw [e', squeeze_plains.l0.eq_2, if_pos (by omega), hm, Option.bind_some, if_pos (by rw [mn_eq]; omega), if_pos (by rw [mn_eq]; omega), hz, if_pos (by rw [s1, c1]; omega), if_pos (by rw [size_cat, s1, c1]; omega)]
        exact hb
      · rw [hbb, e', bytesOf_cat, bytesOf_cat, one, List.append_assoc]
        congr 1
        cases hl : bytesOf x with
        | nil => have := size_len x; rw [hl] at this; simp at this; omega
        | cons a l =>
          have hn := size_len x
          rw [hl, List.length_cons] at hn
          rw [pl_cons]
          have q1 : bytesOf (cutS x 0 (min x.size 128)) = (a :: l).take 128 := by
            rw [bytesOf_cut, hl, List.drop_zero, Nat.sub_zero]
            by_cases g : 128 ≤ x.size
            · rw [show min x.size 128 = 128 by omega]
            · rw [show min x.size 128 = x.size by omega, List.take_of_length_le (by rw [List.length_cons]; omega), List.take_of_length_le (by rw [List.length_cons]; omega)]
          have q2 : bytesOf (cutS x (min x.size 128) x.size) = (a :: l).drop 128 := by
            rw [bytesOf_cut, hl, List.take_of_length_le (by rw [List.length_drop, List.length_cons]; omega)]
            by_cases g : 128 ≤ x.size
            · rw [show min x.size 128 = 128 by omega]
            · rw [show min x.size 128 = x.size by omega, List.drop_eq_nil_of_le (by rw [List.length_cons]; omega), List.drop_eq_nil_of_le (by rw [List.length_cons]; omega)]
          rw [q1, q2, hn]
          simp only [List.cons_append, List.nil_append]
theorem decF_loop (t : Nat) (k : Nat) : ∀ (m : Nat) (out : ByteArray), m < 10 ^ k → m ≤ 60000 → out.size + m ≤ 1000000 → digit_Dec.l0 (k + t + 1) m out = some (if m = 0 then out else catS (decB m) out) := by
  induction k with
  | zero =>
    intro m out h _ _
    have : m = 0 := by omega
    subst this
    rw [if_pos rfl, digit_Dec.l0.eq_2, if_neg (by omega)]
  | succ k ih =>
    intro m out h h1 h2
    rw [digit_Dec.l0.eq_2]
    by_cases e : m = 0
    · rw [if_pos e, if_neg (by omega)]
    · have e' : k + 1 + t = k + t + 1 := by omega
      rw [if_neg e, if_pos (by omega), Option.bind_some, dec_digit (by omega) (by omega), dec_next (by omega) (by omega), Int.toNat_natCast,
        if_pos (by rw [size_nums]; simp only [List.length_cons, List.length_nil]; omega), e', ih (m / 10) _ (by rw [Nat.pow_succ] at h; omega) (by omega) (by rw [size_cat, size_nums]; simp only [List.length_cons, List.length_nil]; omega)]
      congr 1
      apply bytesOf_inj
      by_cases h : m < 10
      · rw [if_pos (by omega), bytesOf_cat, bytesOf_cat, bytesOf_dec, decL_lt h, one_dec, Nat.mod_eq_of_lt h]
      · rw [if_neg (by omega)]
        simp only [bytesOf_cat, bytesOf_dec]
        rw [decL_ge h, one_dec, List.append_assoc]
theorem decF (n : Nat) (h : n ≤ 60000) : digit_Dec.f 100 (n : Int) = some (decB n) := by
  unfold digit_Dec.f
  rw [may_yes (by omega) (by omega), Option.bind_some, if_pos rfl, dec_digit (by omega) (by omega), dec_next (by omega) (by omega), Int.toNat_natCast, show (100 : Nat) = 5 + 94 + 1 from rfl,
    decF_loop 94 5 (n / 10) _ (by omega) (by omega) (by rw [size_nums]; simp only [List.length_cons, List.length_nil]; omega)]
  congr 1
  apply bytesOf_inj
  by_cases h : n < 10
  · rw [if_pos (by omega), bytesOf_dec, decL_lt h, one_dec, Nat.mod_eq_of_lt h]
  · rw [if_neg (by omega)]
    simp only [bytesOf_cat, bytesOf_dec]
    rw [decL_ge h, one_dec]
theorem decl0 : ∀ (k : Nat) (x : Int) (y : ByteArray), V.digit_Dec.l0 k x y = Q.digit_Dec.l0 k x y
  | 0, _, _ => rfl
  | k + 1, x, y => by rw [V.digit_Dec.l0.eq_2, Q.digit_Dec.l0.eq_2]; simp only [decl0 k]
theorem plainsl0 : ∀ (k : Nat) (x y : ByteArray), V.squeeze_plains.l0 k x y = Q.squeeze_plains.l0 k x y
  | 0, _, _ => rfl
  | k + 1, x, y => by rw [V.squeeze_plains.l0.eq_2, Q.squeeze_plains.l0.eq_2]; simp only [plainsl0 k]
theorem decV (n : Nat) (h : n ≤ 60000) : V.digit_Dec.f 100 (n : Int) = some (decB n) := by
  have := decF n h
  unfold Q.digit_Dec.f at this
  unfold V.digit_Dec.f
  simp only [decl0]
  exact this
theorem plainsV : Plains (V.squeeze_plains.f 1000) := by
  intro x hx
  obtain ⟨b, hb, hbb⟩ := plains_loop 530 469 x ⟨#[]⟩ (by omega) hx (by rw [show (⟨#[]⟩ : ByteArray).size = 0 from rfl]; omega)
  refine ⟨b, ?_, by rw [hbb]; rfl⟩
  unfold V.squeeze_plains.f
  rw [plainsl0]
  exact hb
theorem dec_small_len {n : Nat} (h : n ≤ 60000) : (decL n).length ≤ 5 := by
  by_cases a : n < 10
  · rw [decL_lt a]; simp
  rw [decL_ge a]
  by_cases b : n / 10 < 10
  · rw [decL_lt b]; simp
  rw [decL_ge b]
  by_cases c : n / 10 / 10 < 10
  · rw [decL_lt c]; simp
  rw [decL_ge c]
  by_cases d : n / 10 / 10 / 10 < 10
  · rw [decL_lt d]; simp
  rw [decL_ge d, decL_lt (by omega)]
  simp
/-- What is pressed: its size, pieces that make it, not many. -/
theorem press_ev (s : ByteArray) (hs : s.size ≤ 60000) : ∃ r P, squeeze_Press.f s = some r ∧ bytesOf r = decL s.size ++ 59 :: P ∧ exG s.size P [] = some (bytesOf s) ∧ r.size ≤ s.size + s.size / 128 + 7 := by
  have dl := dec_small_len hs
  have hh : bytesOf (decB s.size ++ (⟨#[59]⟩ : ByteArray)) = decL s.size ++ [59] := by
    have := bytesOf_cat (decB s.size) ⟨#[59]⟩
    unfold catS at this
    rw [this, bytesOf_dec]; rfl
  obtain ⟨r, P, h1, h2, h3, h4⟩ := press_spec s hs plainsV (decL s.size ++ [59]) (by rw [List.length_append]; simp only [List.length_cons, List.length_nil]; omega) 60001 _ (fun _ => none) 0 0 [] (by rw [hh, List.append_nil]) (fun R => rfl) (Nat.le_refl _) (Nat.le_refl _) (Nat.zero_le _) (fun k p h => by cases h) (by omega)
  refine ⟨r, P, ?_, by rw [h2, List.append_assoc]; rfl, h3, ?_⟩
  · unfold squeeze_Press.f
    rw [if_neg (by omega), decV _ hs, Option.bind_some, if_pos (by rw [size_dec]; omega)]
    exact h1
  · rw [← size_len, h2, List.length_append, List.length_append]
    simp only [List.length_cons, List.length_nil]
    omega
end Go.Proofs.Ytjiafbckfnglmaa.B
