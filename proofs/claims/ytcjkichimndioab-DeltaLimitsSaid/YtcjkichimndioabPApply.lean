/- The plain laws of delta.Apply, delta.Size and of their reference: what they answer, on lists. -/
import Derived.Test.YtcjkichimndioabPCheck
import Derived.Test.YtcjkichimndioabPDigitRef
import Derived.Test.YtcjkichimndioabQx1
import Derived.Test.YtcjkichimndioabQx2
import Derived.Test.YtcjkichimndioabQx2
namespace Go.Proofs.Ytcjkichimndioab.B
open Go.RowKit Go.Proofs.Ytcjkichimndioab.PW Go.Proofs.Ytcjkichimndioab.Given Go.Proofs.Ytcjkichimndioab.Q Go.Proofs.YtcjkichimndioabW.PrintWords Go.Proofs.YtcjkichimndioabW.PrintMore
/-- What a copy's place and comma say: the place, what stands behind. -/
def copyL (rest : List Int) : Option (Int × List Int) :=
  match rdS rest with
  | none => none
  | some (fr, m) => match rest.drop m with
    | [] => none
    | c :: r => if c = 44 then some (fr, r) else none
/-- The commands' answer: none where they are none. -/
def apL (src : List Int) (size : Int) : Nat → List Int → List Int → Option (List Int)
  | 0, _, _ => none
  | f + 1, d, o => match rdS d with
    | none => none
    | some (n, j) => match d.drop j with
      | [] => none
      | c :: rest =>
        if c = 59 then (if rest = [] ∧ (o.length : Int) = size ∧ n = chk o then some o else none)
        else if c = 58 then (if 1 ≤ n ∧ n ≤ size - o.length ∧ n ≤ rest.length then apL src size f (rest.drop n.toNat) (o ++ rest.take n.toNat) else none)
        else if c = 64 then match copyL rest with
          | none => none
          | some (fr, r) => if 1 ≤ n ∧ n ≤ size - o.length ∧ fr ≤ src.length ∧ n ≤ src.length - fr then apL src size f r (o ++ (src.drop fr.toNat).take n.toNat) else none
        else none
/-- The size that a delta says, what stands behind it. -/
def sizeL (d : List Int) : Option (Int × List Int) :=
  match rdS d with
  | none => none
  | some (n, j) => match d.drop j with
    | [] => none
    | c :: r => if c = 10 then some (n, r) else none
/-- A delta's answer. -/
def applyL (src d : List Int) : Option (List Int) :=
  match sizeL d with
  | none => none
  | some (n, r) => if n ≤ 300 then apL src n (d.length + 1) r [] else none
/-- What is handed back. -/
def apR : Option (List Int) → ByteArray × Bool
  | none => (⟨#[]⟩, false)
  | some l => (strOfNums l, true)
theorem vals_bound (l : List Int) : (∀ c ∈ l, 0 ≤ val c) → ∀ n, 0 ≤ n → 0 ≤ vals l n := fun h n hn => Int.le_trans hn (vals_le l n hn h)
theorem digs_len (l : List Int) : (digs l).length ≤ l.length := by
  unfold digs
  exact (List.takeWhile_sublist _).length_le
theorem rdS_some {l : List Int} {n : Int} {j : Nat} (h : rdS l = some (n, j)) : 0 ≤ n ∧ n ≤ 1073741824 ∧ 1 ≤ j ∧ j ≤ l.length ∧ j = (digs l).length := by
  unfold rdS at h
  split at h
  · simp at h
  · rename_i g
    simp only [Option.some.injEq, Prod.mk.injEq] at h
    have g0 : ¬ digs l = [] := fun e => g (Or.inl e)
    have g1 : ¬ vals (digs l) 0 > 1073741824 := fun e => g (Or.inr (Or.inl e))
    have hl : (digs l).length ≠ 0 := fun e => g0 (List.eq_nil_of_length_eq_zero e)
    have := vals_bound (digs l) (digs_all l) 0 (by omega)
    have := digs_len l
    omega
theorem read_none {s : ByteArray} {i : Nat} (hs : s.size ≤ 4611686018427387904) (h : rdS ((bytesOf s).drop i) = none) : Ev (fun k => digit_Read.f k s i) (0, 0, false) := by
  refine Ev.eq ?_ (read_ev s i hs)
  by_cases g : i < s.size
  · rw [rdR_at s i g, h]
  · rw [rdR_no s i (Or.inr (by omega))]
theorem read_some {s : ByteArray} {i : Nat} {n : Int} {j : Nat} (hs : s.size ≤ 4611686018427387904) (h : rdS ((bytesOf s).drop i) = some (n, j)) : Ev (fun k => digit_Read.f k s i) (n, ((i + j : Nat) : Int), true) := by
  refine Ev.eq ?_ (read_ev s i hs)
  have hj := rdS_some h
  rw [List.length_drop, size_len] at hj
  rw [rdR_at s i (by omega), h]
  simp
/-- What 'Size' hands back. -/
def sizeR (d : List Int) : Int × Bool := match sizeL d with
  | none => (0, false)
  | some (n, _) => (n, true)
theorem size_ev (d : ByteArray) (hd : d.size ≤ 4611686018427387904) : Ev (fun k => delta_Size.f k d) (sizeR (bytesOf d)) := by
  unfold delta_Size.f sizeR sizeL
  cases h : rdS (bytesOf d) with
  | none => exact Ev.bind (read_none (i := 0) hd h) (Ev.nn (by decide) (Ev.now _))
  | some p =>
    obtain ⟨n, j⟩ := p
    have hj := rdS_some h
    rw [size_len] at hj
    refine Ev.bind (read_some (i := 0) hd h) (Ev.ip rfl ?_)
    dsimp only
    rw [Nat.zero_add]
    by_cases g : j < d.size
    · refine Ev.nn (by omega) (Ev.ip (by omega) (Ev.ip (by omega) ?_))
      rw [drop_cons d j g]
      dsimp only
      by_cases e : bt d j = 10
      · refine Ev.ip e ?_; rw [if_pos e]; exact Ev.now _
      · refine Ev.nn e ?_; rw [if_neg e]; exact Ev.now _
    · rw [drop_nil d j (by omega)]
      exact Ev.ip (by omega) (Ev.now _)
/-! ### a command -/
/-- What 'command' hands back: the text, where it goes on. -/
def cmdL (src : List Int) (c : Int) (rest : List Int) (n : Int) : Option (List Int × List Int) :=
  if n = 0 then none
  else if c = 58 then (if n ≤ rest.length then some (rest.take n.toNat, rest.drop n.toNat) else none)
  else if c = 64 then match copyL rest with
    | none => none
    | some (fr, r) => if fr ≤ src.length ∧ n ≤ src.length - fr then some ((src.drop fr.toNat).take n.toNat, r) else none
  else none
theorem cmd_ev (s d : ByteArray) (hs : s.size ≤ 4611686018427387904) (hd : d.size ≤ 4611686018427387904) (n : Int) (i : Nat) (h0 : 0 ≤ n) (h1 : n ≤ 1073741824) (hi : i < d.size) :
    (cmdL (bytesOf s) (bt d i) ((bytesOf d).drop (i + 1)) n = none ∧ Ev (fun k => delta_command.f k s d n i) (⟨#[]⟩, 0, false)) ∨
    ∃ t j, cmdL (bytesOf s) (bt d i) ((bytesOf d).drop (i + 1)) n = some (bytesOf t, (bytesOf d).drop j) ∧ i < j ∧ j ≤ d.size ∧ (t.size : Int) = n ∧ Ev (fun k => delta_command.f k s d n i) (t, (j : Int), true) := by
  have hlen : ((bytesOf d).drop (i + 1)).length = d.size - (i + 1) := by rw [List.length_drop, size_len]
  unfold cmdL delta_command.f
  by_cases z : n = 0
  · rw [if_pos z]
    exact Or.inl ⟨rfl, Ev.ip z (Ev.step (fun k => delta_command.j0.eq_2 s d n i true k) (Ev.ip rfl (Ev.now _)))⟩
  rw [if_neg z]
  have e0 : decide ((i : Int) ≥ (d.size : Int)) = false := decide_eq_false (by omega)
  have start : ∀ r, Ev (fun k => delta_command.j0 k s d n i false) r → Ev (fun k => if n = 0 then delta_command.j0 k s d n i true else delta_command.j0 k s d n i (decide ((i : Int) ≥ (d.size : Int)))) r := fun r h => Ev.nn z (by rw [e0]; exact h)
  have hb := bt_range d i
  by_cases c1 : bt d i = 58
  · rw [if_pos c1]
    by_cases g : n ≤ ((bytesOf d).drop (i + 1)).length
    · rw [if_pos g]
      rw [hlen] at g
      refine Or.inr ⟨cutS d (i + 1) (i + 1 + n.toNat), i + 1 + n.toNat, ?_, by omega, by omega, ?_, start _ ?_⟩
      · rw [bytesOf_cut, List.drop_drop, Nat.add_sub_cancel_left]
      · rw [size_cut (by omega)]; omega
      · refine Ev.step (fun k => delta_command.j0.eq_2 s d n i false k) ?_
        have e3 : wrap64 (((i + 1 : Nat) : Int) + n) = ((i + 1 + n.toNat : Nat) : Int) := by rw [w64 (by omega) (by omega)]; omega
        rw [wnat (by omega), wless' (by omega) (by omega), e3]
        refine Ev.nn (by decide) (Ev.ip (by omega) (Ev.ip (by omega) (Ev.ip c1 (Ev.ip (by omega) (Ev.ip (by omega) (Ev.ip (by omega) (Ev.ip (by omega) ?_)))))))
        rw [Int.toNat_natCast, Int.toNat_natCast]
        exact Ev.now _
    · rw [if_neg g]
      rw [hlen] at g
      refine Or.inl ⟨rfl, start _ ?_⟩
      refine Ev.step (fun k => delta_command.j0.eq_2 s d n i false k) ?_
      rw [wnat (by omega), wless' (by omega) (by omega)]
      exact Ev.nn (by decide) (Ev.ip (by omega) (Ev.ip (by omega) (Ev.ip c1 (Ev.nn (by omega) (Ev.now _)))))
  rw [if_neg c1]
  by_cases c2 : bt d i = 64
  · rw [if_pos c2]
    have walk : ∀ r, Ev (fun k => (digit_Read.f k d ((i + 1 : Nat) : Int)).bind fun bt114 => _) r → Ev (fun k => delta_command.j0 k s d n i false) r := fun r h => Ev.step (fun k => delta_command.j0.eq_2 s d n i false k) (Ev.nn (by decide) (Ev.ip (by omega) (Ev.ip (by omega) (Ev.nn c1 (Ev.ip c2 (by rw [wnat (by omega)]; exact h))))))
    unfold copyL
    cases h : rdS ((bytesOf d).drop (i + 1)) with
    | none => exact Or.inl ⟨rfl, start _ (walk _ (Ev.bind (read_none hd h) (Ev.nn (by decide) (Ev.now _))))⟩
    | some p =>
      obtain ⟨fr, j⟩ := p
      have hj := rdS_some h
      rw [hlen] at hj
      dsimp only
      rw [List.drop_drop]
      by_cases g : i + 1 + j < d.size
      · rw [drop_cons d (i + 1 + j) g]
        dsimp only
        have hb2 := bt_range d ((i + 1 + j : Nat) : Int)
        by_cases e : bt d ((i + 1 + j : Nat) : Int) = 44
        · rw [if_pos e]
          dsimp only
          rw [size_len]
          by_cases q : fr ≤ (s.size : Int) ∧ n ≤ (s.size : Int) - fr
          · rw [if_pos q]
            refine Or.inr ⟨cutS s fr.toNat (fr.toNat + n.toNat), i + 1 + j + 1, ?_, by omega, by omega, ?_, start _ (walk _ (Ev.bind (read_some hd h) (Ev.ip rfl ?_)))⟩
            · rw [bytesOf_cut, Nat.add_sub_cancel_left]
            · rw [size_cut (by omega)]; omega
            · dsimp only
              have e3 : wrap64 (fr + n) = ((fr.toNat + n.toNat : Nat) : Int) := by rw [w64 (by omega) (by omega)]; omega
              have e4 : wrap64 ((s.size : Int) - fr) = (s.size : Int) - fr := w64 (by omega) (by omega)
              rw [e3, e4, wnat (by omega)]
              refine Ev.ip (by omega) (Ev.ip (by omega) (Ev.ip e (Ev.ip (by omega) (Ev.ip (by omega) (Ev.ip (by omega) (Ev.ip (by omega) (Ev.ip (by omega) ?_)))))))
              rw [Int.toNat_natCast]
              exact Ev.now _
          · rw [if_neg q]
            refine Or.inl ⟨rfl, start _ (walk _ (Ev.bind (read_some hd h) (Ev.ip rfl ?_)))⟩
            dsimp only
            refine Ev.ip (by omega) (Ev.ip (by omega) (Ev.ip e ?_))
            by_cases q1 : fr ≤ (s.size : Int)
            · have e4 : wrap64 ((s.size : Int) - fr) = (s.size : Int) - fr := w64 (by omega) (by omega)
              rw [e4]
              exact Ev.ip q1 (Ev.nn (by omega) (Ev.now _))
            · exact Ev.nn q1 (Ev.now _)
        · rw [if_neg e]
          refine Or.inl ⟨rfl, start _ (walk _ (Ev.bind (read_some hd h) (Ev.ip rfl ?_)))⟩
          dsimp only
          exact Ev.ip (by omega) (Ev.ip (by omega) (Ev.nn e (Ev.now _)))
      · rw [drop_nil d (i + 1 + j) (by omega)]
        refine Or.inl ⟨rfl, start _ (walk _ (Ev.bind (read_some hd h) (Ev.ip rfl ?_)))⟩
        dsimp only
        exact Ev.nn (by omega) (Ev.now _)
  · rw [if_neg c2]
    refine Or.inl ⟨rfl, start _ ?_⟩
    refine Ev.step (fun k => delta_command.j0.eq_2 s d n i false k) ?_
    exact Ev.nn (by decide) (Ev.ip (by omega) (Ev.ip (by omega) (Ev.nn c1 (Ev.nn c2 (Ev.now _)))))
/-! ### Apply -/
theorem apR_some (o : ByteArray) : apR (some (bytesOf o)) = (o, true) := by
  show (strOfNums (bytesOf o), true) = (o, true)
  rw [strOfNums_bytesOf]
theorem cmdL_apL (src : List Int) (size : Int) (f : Nat) (d o : List Int) (n : Int) (j : Nat) (c : Int) (rest : List Int) (h : rdS d = some (n, j)) (hd : d.drop j = c :: rest) (hc : c ≠ 59) (hn : 0 ≤ n) :
    apL src size (f + 1) d o = match cmdL src c rest n with
      | none => none
      | some (t, r) => if n ≤ size - o.length then apL src size f r (o ++ t) else none := by
  rw [apL.eq_2]
  unfold cmdL
  rw [h]
  dsimp only
  rw [hd]
  dsimp only
  rw [if_neg hc]
  by_cases z : n = 0
  · rw [if_pos z]
    by_cases c1 : c = 58
    · rw [if_pos c1, if_neg (by omega)]
    · rw [if_neg c1]
      by_cases c2 : c = 64
      · rw [if_pos c2]
        cases copyL rest with
        | none => rfl
        | some p => exact if_neg (by omega)
      · rw [if_neg c2]
  · rw [if_neg z]
    by_cases c1 : c = 58
    · rw [if_pos c1, if_pos c1]
      by_cases g : n ≤ (rest.length : Int)
      · rw [if_pos g]
        dsimp only
        by_cases q : n ≤ size - (o.length : Int)
        · rw [if_pos q, if_pos ⟨by omega, q, g⟩]
        · rw [if_neg q, if_neg (fun x => q x.2.1)]
      · rw [if_neg g, if_neg (fun x => g x.2.2)]
    · rw [if_neg c1, if_neg c1]
      by_cases c2 : c = 64
      · rw [if_pos c2, if_pos c2]
        cases copyL rest with
        | none => rfl
        | some p =>
          obtain ⟨fr, r⟩ := p
          dsimp only
          by_cases g : fr ≤ (src.length : Int) ∧ n ≤ (src.length : Int) - fr
          · rw [if_pos g]
            dsimp only
            by_cases q : n ≤ size - (o.length : Int)
            · rw [if_pos q, if_pos ⟨by omega, q, g⟩]
            · rw [if_neg q, if_neg (fun x => q x.2.1)]
          · rw [if_neg g, if_neg (fun x => g x.2.2)]
      · rw [if_neg c2, if_neg c2]
theorem ap_loop (s d : ByteArray) (hs : s.size ≤ 4611686018427387904) (hd : d.size ≤ 4611686018427387904) (size : Int) (hz : size ≤ 300) (f : Nat) : ∀ (i : Nat) (o : ByteArray), i ≤ d.size → d.size - i < f → (o.size : Int) ≤ size →
    Ev (fun k => delta_Apply.l0 k s d size o i) (apR (apL (bytesOf s) size f ((bytesOf d).drop i) (bytesOf o))) := by
  induction f with
  | zero => intro i o _ h; omega
  | succ f ih =>
    intro i o hi hf ho
    refine Ev.step (fun k => delta_Apply.l0.eq_2 s d size o i k) ?_
    have hlen : ((bytesOf d).drop i).length = d.size - i := by rw [List.length_drop, size_len]
    cases h : rdS ((bytesOf d).drop i) with
    | none =>
      have e : apL (bytesOf s) size (f + 1) ((bytesOf d).drop i) (bytesOf o) = none := by unfold apL; rw [h]
      rw [e]
      exact Ev.bind (read_none hd h) (Ev.nn (by decide) (Ev.step (fun k => delta_Apply.j2.eq_2 s d size o 0 0 true k) (Ev.ip rfl (Ev.now _))))
    | some p =>
      obtain ⟨n, j⟩ := p
      have hj := rdS_some h
      rw [hlen] at hj
      refine Ev.bind (read_some hd h) (Ev.ip rfl (Ev.step (fun k => delta_Apply.j2.eq_2 s d size o n ((i + j : Nat) : Int) _ k) ?_))
      by_cases g : i + j < d.size
      · have e0 : decide (((i + j : Nat) : Int) ≥ (d.size : Int)) = false := decide_eq_false (by omega)
        rw [e0]
        have hb := bt_range d ((i + j : Nat) : Int)
        have hdr : ((bytesOf d).drop i).drop j = bt d ((i + j : Nat) : Int) :: (bytesOf d).drop (i + j + 1) := by rw [List.drop_drop, drop_cons d (i + j) g]
        refine Ev.nn (by decide) (Ev.ip (by omega) (Ev.ip (by omega) ?_))
        by_cases c0 : bt d ((i + j : Nat) : Int) = 59
        · refine Ev.ip c0 ?_
          rw [wnat (by omega)]
          have e : apL (bytesOf s) size (f + 1) ((bytesOf d).drop i) (bytesOf o) = if (bytesOf d).drop (i + j + 1) = [] ∧ (o.size : Int) = size ∧ n = chk (bytesOf o) then some (bytesOf o) else none := by
            unfold apL
            rw [h]
            dsimp only
            rw [hdr]
            dsimp only
            rw [if_pos c0, size_len]
          rw [e]
          by_cases g1 : i + j + 1 = d.size
          · refine Ev.ip (by omega) ?_
            by_cases g2 : (o.size : Int) = size
            · refine Ev.ip g2 (Ev.bind (check_ev o (by omega)) (Ev.step (fun k => delta_Apply.j3.eq_2 o _ k) ?_))
              by_cases g3 : n = chk (bytesOf o)
              · refine Ev.nn (by rw [g3]; simp) ?_
                rw [if_pos ⟨drop_nil d _ (by omega), g2, g3⟩, apR_some]
                exact Ev.now _
              · refine Ev.ip (by simpa using g3) ?_
                rw [if_neg (fun x => g3 x.2.2)]
                exact Ev.now _
            · refine Ev.nn g2 ?_
              rw [if_neg (fun x => g2 x.2.1)]
              exact (Ev.step (fun k => delta_Apply.j3.eq_2 o _ k) (Ev.ip rfl (Ev.now _)))
          · refine Ev.nn (by omega) ?_
            rw [if_neg]
            · exact (Ev.step (fun k => delta_Apply.j3.eq_2 o _ k) (Ev.ip rfl (Ev.now _)))
            · intro x
              have := congrArg List.length x.1
              rw [List.length_drop, size_len, List.length_nil] at this
              omega
        · refine Ev.nn c0 ?_
          rw [cmdL_apL (bytesOf s) size f _ (bytesOf o) n j _ _ h hdr c0 hj.1]
          rcases cmd_ev s d hs hd n (i + j) hj.1 hj.2.1 g with ⟨e, ev⟩ | ⟨t, m, e, hm1, hm2, ht, ev⟩
          · rw [e]
            exact Ev.bind ev (Ev.nn (by decide) (Ev.now _))
          · rw [e]
            dsimp only
            rw [size_len]
            refine Ev.bind ev (Ev.ip rfl ?_)
            dsimp only
            have e5 : wrap64 (size - (o.size : Int)) = size - (o.size : Int) := w64 (by omega) (by omega)
            rw [e5]
            by_cases q : n ≤ size - (o.size : Int)
            · refine Ev.nn (by omega) (Ev.ip (by omega) ?_)
              rw [if_pos q, ← bytesOf_cat]
              exact ih m (catS o t) hm2 (by omega) (by rw [size_cat]; omega)
            · refine Ev.ip (by omega) ?_
              rw [if_neg q]
              exact Ev.now _
      · have e0 : decide (((i + j : Nat) : Int) ≥ (d.size : Int)) = true := decide_eq_true (by omega)
        rw [e0]
        have e : apL (bytesOf s) size (f + 1) ((bytesOf d).drop i) (bytesOf o) = none := by
          unfold apL
          rw [h]
          dsimp only
          rw [List.drop_drop, drop_nil d (i + j) (by omega)]
        rw [e]
        exact Ev.ip rfl (Ev.now _)
theorem index_app (c : UInt8) (pre : List Int) : ∀ (l : List UInt8) (r : List Int), (l.map fun b => (b.toNat : Int)) = pre ++ (c.toNat : Int) :: r → (∀ x ∈ pre, x ≠ (c.toNat : Int)) → Lib.indexByte l c = (pre.length : Int) := by
  induction pre with
  | nil =>
    intro l r h _
    cases l with
    | nil => simp at h
    | cons b l =>
      simp only [List.map_cons, List.nil_append, List.cons.injEq] at h
      have hb : b = c := UInt8.toNat_inj.1 (Int.ofNat.inj h.1)
      unfold Lib.indexByte
      rw [if_pos (by rw [hb]; exact beq_self_eq_true c)]
      rfl
  | cons a pre ih =>
    intro l r h hn
    cases l with
    | nil => simp at h
    | cons b l =>
      simp only [List.map_cons, List.cons_append, List.cons.injEq] at h
      have hb : ¬ (b == c) = true := by
        intro e
        have e := eq_of_beq e
        apply hn a (List.mem_cons_self ..)
        rw [← h.1, e]
      have key := ih l r h.2 (fun x hx => hn x (List.mem_cons_of_mem _ hx))
      unfold Lib.indexByte
      rw [if_neg hb, key, if_neg (by simp only [beq_iff_eq]; omega), List.length_cons]
      omega
theorem digs_split (l : List Int) : l = digs l ++ l.drop (digs l).length := by
  induction l with
  | nil => rfl
  | cons c l ih =>
    by_cases h : 0 ≤ val c
    · rw [digs_yes l h]; simp only [List.length_cons, List.drop_succ_cons, List.cons_append]; rw [← ih]
    · rw [digs_no l h]; rfl
theorem val_lf : val 10 = -1 := by decide +kernel
theorem index_lf {d : ByteArray} {n : Int} {j : Nat} {r : List Int} (h : rdS (bytesOf d) = some (n, j)) (hd : (bytesOf d).drop j = 10 :: r) : strings_IndexByte.f d 10 = some (j : Int) := by
  unfold strings_IndexByte.f
  have hj := rdS_some h
  have e := digs_split (bytesOf d)
  rw [← hj.2.2.2.2, hd] at e
  rw [hj.2.2.2.2]
  refine congrArg some (index_app 10 (digs (bytesOf d)) d.data.toList r ?_ ?_)
  · exact e
  · intro x hx e
    have := digs_all _ x hx
    have e2 : x = 10 := e
    rw [e2, val_lf] at this
    omega
theorem sizeL_some {l : List Int} {n : Int} {r : List Int} (h : sizeL l = some (n, r)) : ∃ j, rdS l = some (n, j) ∧ l.drop j = 10 :: r := by
  unfold sizeL at h
  cases g : rdS l with
  | none => rw [g] at h; simp at h
  | some p =>
    obtain ⟨m, j⟩ := p
    rw [g] at h
    dsimp only at h
    cases e : l.drop j with
    | nil => rw [e] at h; simp at h
    | cons c t =>
      rw [e] at h
      dsimp only at h
      by_cases q : c = 10
      · rw [if_pos q] at h
        simp only [Option.some.injEq, Prod.mk.injEq] at h
        obtain ⟨rfl, rfl⟩ := h
        exact ⟨j, rfl, by rw [q] at e; exact e⟩
      · rw [if_neg q] at h; simp at h
theorem apply_ev (s d : ByteArray) (hs : s.size ≤ 4611686018427387904) (hd : d.size ≤ 4611686018427387904) :
    Ev (fun k => delta_Apply.f k s d) (apR (applyL (bytesOf s) (bytesOf d))) := by
  unfold delta_Apply.f
  have none_ : ∀ n, Ev (fun k => delta_Apply.j0 k s d n true) (⟨#[]⟩, false) := fun n => Ev.step (fun k => delta_Apply.j0.eq_2 s d n true k) (Ev.ip rfl (Ev.now _))
  cases hz : sizeL (bytesOf d) with
  | none =>
    have e1 : sizeR (bytesOf d) = (0, false) := by unfold sizeR; rw [hz]
    have e2 : applyL (bytesOf s) (bytesOf d) = none := by unfold applyL; rw [hz]
    rw [e2]
    exact Ev.bind (Ev.eq e1 (size_ev d hd)) (Ev.nn (by decide) (none_ 0))
  | some p =>
    obtain ⟨n, r⟩ := p
    obtain ⟨j, h, hdr⟩ := sizeL_some hz
    have hj := rdS_some h
    rw [size_len] at hj
    have g : j < d.size := by
      have := congrArg List.length hdr
      rw [List.length_drop, size_len, List.length_cons] at this
      omega
    have hr : r = (bytesOf d).drop (j + 1) := by
      rw [drop_cons d j g] at hdr
      injection hdr with _ e
      exact e.symm
    have e1 : sizeR (bytesOf d) = (n, true) := by unfold sizeR; rw [hz]
    have e2 : applyL (bytesOf s) (bytesOf d) = if n ≤ 300 then apL (bytesOf s) n ((bytesOf d).length + 1) r [] else none := by unfold applyL; rw [hz]
    rw [e2]
    refine Ev.bind (Ev.eq e1 (size_ev d hd)) (Ev.ip rfl ?_)
    dsimp only
    by_cases q : n ≤ 300
    · have e0 : decide (n > 300) = false := decide_eq_false (by omega)
      rw [e0, if_pos q]
      refine Ev.step (fun k => delta_Apply.j0.eq_2 s d n false k) (Ev.nn (by decide) ?_)
      rw [index_lf h hdr]
      refine Ev.cb rfl ?_
      rw [wnat (by omega), size_len, hr]
      exact ap_loop s d hs hd n q (d.size + 1) (j + 1) ⟨#[]⟩ (by omega) (by omega) (by show ((0 : Nat) : Int) ≤ n; omega)
    · have e0 : decide (n > 300) = true := decide_eq_true (by omega)
      rw [e0, if_neg q]
      exact none_ n
end Go.Proofs.Ytcjkichimndioab.B
