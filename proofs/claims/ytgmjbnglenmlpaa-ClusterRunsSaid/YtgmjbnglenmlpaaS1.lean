/- Clusters: which may be, their texts, what a text reads; ClusterRuns. -/
import Derived.Test.YtgmjbnglenmlpaaQN
import Derived.Test.YtgmjbnglenmlpaaPlB
import Derived.Test.YtgmjbnglenmlpaaAbt5
set_option linter.unusedVariables false
set_option linter.unusedSimpArgs false
set_option linter.unusedSectionVars false
set_option maxRecDepth 10000
namespace Go.Proofs.Ytgmjbnglenmlpaa.Ab
open Go Go.RowKit Go.Proofs.Ytgmjbnglenmlpaa.Given
theorem isB_arg' {s : List UInt8} (h : isB s = true) : okArg s = true ∧ s.length = 40 := by
  unfold isB at h
  simp only [Bool.and_eq_true, List.all_eq_true, decide_eq_true_eq] at h
  refine ⟨okArg_iff.2 ⟨fun e => by rw [e] at h; simp at h, fun hm => (hexB_ne (h.1 _ hm)).1 rfl, fun hm => (hexB_ne (h.1 _ hm)).2 rfl⟩, h.2⟩
def namePrev : Option (List UInt8) → List UInt8 → Bool
  | none, _ => true
  | some p, s => Op.bytesLess p s
def okRise : Option (List UInt8) → List (List UInt8) → Bool
  | _, [] => true
  | p, s :: r => isB s && (namePrev p s && okRise (some s) r)
def rightN (l : List (List UInt8)) : Bool := okRise none l && (decide (1 ≤ l.length) && decide (l.length ≤ 12))
def prevN (l : List (List UInt8)) (k : Nat) : Option (List UInt8) := if k = 0 then none else some (l.getD (k - 1) (DTy.dflt .str))
theorem prevN_step {l : List (List UInt8)} {k : Nat} (hk : k ≤ l.length) (hl : l.length < 4611686018427387904) (s : List UInt8) (X : Bool) (z : Option Bool) (hz : z = some X) :
    (bif decide ((0 : Int) < (k : Int)) then
      (chks [(decide ((0 : Int) ≤ (IntKind.wrap .i64 ((k : Int) - (1 : Int))))), (decide ((IntKind.wrap .i64 ((k : Int) - (1 : Int))) < (List.length l : Int)))]
       (bif (!(Op.bytesLess (List.getD l (Int.toNat (IntKind.wrap .i64 ((k : Int) - (1 : Int)))) (DTy.dflt .str)) s)) then (some false) else z))
    else z) = some (namePrev (prevN l k) s && X) := by
  subst hz
  unfold prevN
  cases k with
  | zero => rfl
  | succ j =>
    have b1 : (0 : Int) < ((j + 1 : Nat) : Int) := by omega
    have b2 : (j : Int) < (l.length : Int) := by omega
    simp only [b1, b2, decide_true, cond_true, wP (show j < 4611686018427387904 by omega), Int.natCast_nonneg, chks_t, chks_nil, Int.toNat_natCast, Nat.add_sub_cancel, Nat.add_eq_zero_iff, Nat.one_ne_zero, and_false, if_false, namePrev]
    generalize Op.bytesLess (l.getD j (DTy.dflt .str)) s = p
    cases p <;> rfl
theorem okRise_mem : ∀ {l : List (List UInt8)} {p : Option (List UInt8)}, okRise p l = true → ∀ s ∈ l, isB s = true := by
  intro l
  induction l with
  | nil => intro p _ s hs; cases hs
  | cons x l ih =>
    intro p h s hs
    rw [okRise] at h
    simp only [Bool.and_eq_true] at h
    cases hs with
    | head => exact h.1
    | tail _ hs => exact ih h.2.2 s hs
def nameCard (s : List UInt8) : DCard := (77, [s], ())
def cluCards (l : List (List UInt8)) : List DCard := l.map nameCard
noncomputable def cluS (l : List (List UInt8)) : List UInt8 := sealS (bodyS (cluCards l))
theorem clu_right {l : List (List UInt8)} (h : rightN l = true) : rightB (cluCards l) = true ∧ (bodyS (cluCards l)).length ≤ 600 := by
  unfold rightN at h
  simp only [Bool.and_eq_true, decide_eq_true_eq] at h
  have hc : ∀ c ∈ cluCards l, OkC c ∧ c.2.1.length ≤ 1 ∧ ∀ a ∈ c.2.1, a.length ≤ 40 := by
    intro c hc
    obtain ⟨s, hs, rfl⟩ := List.mem_map.1 hc
    obtain ⟨h1, h2⟩ := isB_arg' (okRise_mem h.1 s hs)
    refine ⟨⟨by show (65 : Int) ≤ 77; decide, by show (77 : Int) ≤ 89; decide, fun a ha => ?_⟩, Nat.le_refl 1, fun a ha => ?_⟩
    · simp [nameCard] at ha; rw [ha]; exact h1
    · simp [nameCard] at ha; rw [ha]; omega
  have hl : (cluCards l).length = l.length := by simp [cluCards]
  constructor
  · unfold rightB
    rw [okRow_of (fun c hc' => (hc c hc').1) ?_ (fun x hx => rfl), decide_eq_true (by omega)]
    · rfl
    · refine List.pairwise_map.2 (List.pairwise_of_forall fun a b => ?_)
      show (77 : Int) ≤ 77
      decide
  · have := body_le 43 (cluCards l) fun c hc' => line_le (k := 1) (m := 40) (hc c hc').2.1 (hc c hc').2.2
    have : (cluCards l).length * 43 ≤ 12 * 43 := Nat.mul_le_mul_right _ (by omega)
    omega
theorem clu_printS {l : List (List UInt8)} (h : rightN l = true) : printS (cluCards l) = cluS l := by unfold printS; rw [(clu_right h).1]; rfl
section
variable {K : Nat} (hK : 1000000 ≤ K) (hK2 : K < 4611686018427387904)
include hK hK2
theorem cluRight_loop (l : List (List UInt8)) (hb : ∀ s ∈ l, s.length < K) (hl : l.length < K) (t : Int) (ht : t = (l.length : Int)) : ∀ (r : List (List UInt8)) (k n : Nat), l.drop k = r → k ≤ l.length → r.length < n →
    cluster_Right.l2 K n l l t k = some (okRise (prevN l k) r && (decide (1 ≤ l.length) && decide (l.length ≤ 12))) := by
  subst ht
  intro r
  induction r with
  | nil =>
    intro k n hd hk hn
    have := drop_nil hd hk
    subst this
    obtain ⟨n, rfl⟩ : ∃ m, n = m + 1 := ⟨n - 1, by omega⟩
    rw [cluster_Right.l2_succ]
    have e1 : ((1 : Int) ≤ (l.length : Int)) ↔ 1 ≤ l.length := by omega
    have e2 : ((l.length : Int) ≤ 12) ↔ l.length ≤ 12 := by omega
    simp only [Int.lt_irrefl, decide_false, cond_false, okRise, Bool.true_and, e1, e2]
    cases decide (1 ≤ l.length) <;> rfl
  | cons s r ih =>
    intro k n hd hk hn
    obtain ⟨n, rfl⟩ : ∃ m, n = m + 1 := ⟨n - 1, by omega⟩
    simp only [List.length_cons] at hn
    obtain ⟨hg, hlt, hd'⟩ := getD_drop (d := DTy.dflt .str) hd
    have b1 := hb s (List.mem_of_mem_drop (i := k) (by rw [hd]; exact List.mem_cons_self))
    have h1 : (k : Int) < (l.length : Int) := by omega
    have hnext : cluster_Right.l2 K n l l (l.length : Int) (IntKind.wrap .i64 ((k : Int) + 1)) = some (okRise (some s) r && (decide (1 ≤ l.length) && decide (l.length ≤ 12))) := by
      have := ih (k + 1) n hd' (by omega) (by omega)
      unfold prevN at this
      rw [if_neg (by omega), Nat.add_sub_cancel, hg] at this
      rw [wS (by omega)]
      exact this
    have hs := prevN_step (k := k) (l := l) hk (by omega) s _ _ hnext
    rw [cluster_Right.l2_succ]
    simp only [h1, Int.natCast_nonneg, decide_true, cond_true, chks_t, chks_nil, Int.toNat_natCast, hg, is_eq b1 (by omega), Option.bind_some]
    rw [okRise]
    cases isB s
    · rfl
    · refine Eq.trans hs ?_
      simp only [Bool.true_and, Bool.and_assoc]
theorem cluRight_eq {l : List (List UInt8)} (hb : ∀ s ∈ l, s.length < K) (hl : l.length < K) : cluster_Right.f K ((l, ()) : List (List UInt8) × Unit) = some (rightN l) := by
  rw [cluster_Right.eq]
  exact cluRight_loop hK hK2 l hb hl _ rfl l 0 K rfl (Nat.zero_le _) hl
theorem cluPrint_loop (l : List (List UInt8)) (hl : l.length < 1000) (hb : (bodyS (cluCards l)).length < 900000) (t : Int) (ht : t = (l.length : Int)) : ∀ (r : List (List UInt8)) (k n : Nat) (out : List DCard), l.drop k = r → k ≤ l.length → r.length < n → out.length ≤ k → out ++ r.map nameCard = cluCards l →
    cluster_Print.l5 K n out l t k = some (printS (cluCards l)) := by
  have _h := hK2
  subst ht
  intro r
  induction r with
  | nil =>
    intro k n out hd hk hn ho he
    have := drop_nil hd hk
    subst this
    obtain ⟨n, rfl⟩ : ∃ m, n = m + 1 := ⟨n - 1, by omega⟩
    simp only [List.map_nil, List.append_nil] at he
    subst he
    have := print_eq hK (l := cluCards l) (by omega)
    rw [cluster_Print.l5_succ, this]
    simp
  | cons s r ih =>
    intro k n out hd hk hn ho he
    obtain ⟨n, rfl⟩ : ∃ m, n = m + 1 := ⟨n - 1, by omega⟩
    simp only [List.length_cons] at hn
    obtain ⟨hg, hlt, hd'⟩ := getD_drop (d := DTy.dflt .str) hd
    have h1 : (k : Int) < (l.length : Int) := by omega
    rw [cluster_Print.l5_succ]
    simp only [h1, Int.natCast_nonneg, decide_true, cond_true, chks_t, chks_nil, Int.toNat_natCast, hg, wS (show k < 4611686018427387904 by omega)]
    rw [growOk_t (by omega) (by simp; omega), chks_t, chks_nil]
    exact ih (k + 1) n (out ++ [nameCard s]) hd' (by omega) (by omega) (by simp; omega) (by rw [← he]; simp)
theorem cluPrint_eq {l : List (List UInt8)} (hb : ∀ s ∈ l, s.length < K) (hl : l.length < K) : cluster_Print.f K ((l, ()) : List (List UInt8) × Unit) = some (if rightN l = true then cluS l else []) := by
  rw [cluster_Print.eq, cluRight_eq hK hK2 hb hl, Option.bind_some]
  cases hr : rightN l with
  | false => rfl
  | true =>
    have h2 := hr
    unfold rightN at h2
    simp only [Bool.and_eq_true, decide_eq_true_eq] at h2
    rw [if_pos rfl, ← clu_printS hr, Bool.not_true, cond_false]
    exact cluPrint_loop hK hK2 l (by omega) (by have := (clu_right hr).2; omega) _ rfl l 0 K [] rfl (Nat.zero_le _) hl (by simp) (by simp [cluCards])
theorem cluRead_loop {s : List UInt8} (t2 : List (List UInt8)) (t3 : Bool) : ∀ (v : List (Int × (List (List UInt8)) × Unit)) (out : List (List UInt8)), out.length + ((v.map fun x => x.2.1.length).sum) < 1000000 →
    cluster_Read.i4 K v s t2 t3 out = cluster_Read.i4 K [] s t2 t3 (out ++ (v.map fun x => x.2.1).flatten) := by
  have _h := hK
  have _h2 := hK2
  intro v
  induction v with
  | nil => intro out _; simp
  | cons x v ih =>
    intro out hl
    simp only [List.map_cons, List.sum_cons] at hl
    rw [cluster_Read.i4_cons, growOk_t (by omega) (by omega), chks_t, chks_nil, ih _ (by rw [List.length_append]; omega)]
    simp
theorem ofA_name (l : List (List UInt8)) : ∀ i : Int, ((ofA 77 i (cluCards l)).map fun x => x.2.1).flatten = l ∧ ((ofA 77 i (cluCards l)).map fun x => x.2.1.length).sum = l.length := by
  have _h := hK
  have _h2 := hK2
  induction l with
  | nil => intro i; exact ⟨rfl, rfl⟩
  | cons s l ih =>
    intro i
    have e : ofA 77 i (cluCards (s :: l)) = (i, [s], ()) :: ofA 77 (i + 1) (cluCards l) := by
      show (if (77 : Int) = 77 then (i, [s], ()) :: ofA 77 (i + 1) (cluCards l) else ofA 77 (i + 1) (cluCards l)) = _
      exact if_pos rfl
    rw [e]
    obtain ⟨h1, h2⟩ := ih (i + 1)
    simp only [List.map_cons, List.flatten_cons, List.sum_cons, h1, h2, List.length_cons, List.length_nil]
    exact ⟨rfl, by omega⟩
/-- A right cluster's text reads it. -/
theorem cluBack {l : List (List UInt8)} (h : rightN l = true) : cluster_Read.f K ((cluS l, ()) : List UInt8 × Unit) = some (l, true, ()) := by
  have hlen : (cluS l).length < 300000 := by
    have := (clu_right h).2
    unfold cluS sealS
    simp only [List.length_append, List.length_cons, List.length_nil, sumS_len]
    omega
  have hne : ¬ cluS l = [] := by unfold cluS sealS; simp
  obtain ⟨m, ok, r1, r2, r3, r4⟩ := read_eq hK hlen
  obtain ⟨r5, r6⟩ := r4 (cluCards l) (clu_right h).1 (clu_printS h)
  have h2 := h
  unfold rightN at h2
  simp only [Bool.and_eq_true, decide_eq_true_eq] at h2
  obtain ⟨f1, f2⟩ := ofA_name hK hK2 l 0
  have hof := of_eq (l := cluCards l) (c := 77) (by simp [cluCards]; omega)
  have f3 : ([] : List (List UInt8)).length + (((ofA 77 0 (cluCards l) : List (Int × (List (List UInt8)) × Unit)).map fun x => x.2.1.length).sum) < 1000000 := by
    have f4 : (((ofA 77 0 (cluCards l) : List (Int × (List (List UInt8)) × Unit)).map fun x => x.2.1.length).sum) = l.length := f2
    rw [f4, List.length_nil]
    omega
  rw [cluster_Read.eq, r1, Option.bind_some, r6]
  show ((card_Of.L ((cluCards l, 77, ()) : List DCard × Int × Unit)).bind fun v_2 => _) = _
  rw [hof, Option.bind_some, cluRead_loop hK hK2 [] false (ofA 77 0 (cluCards l)) [] f3, f1, List.nil_append, cluster_Read.i4_nil, cluPrint_eq hK hK2 (fun s hs => by have := (isB_arg' (okRise_mem h2.1 s hs)).2; omega) (by omega), if_pos h]
  simp [hne]
theorem cluRuns_eq : ammonitelaw14_ClusterRuns.f K (()) = some true := by
  have hisB := sum_isB [120]
  obtain ⟨x, hx⟩ : ∃ x, sumS [120] = x := ⟨_, rfl⟩
  rw [hx] at hisB
  have hxl := (isB_arg' hisB).2
  have hr : rightN [x] = true := by unfold rightN; simp [okRise, namePrev, hisB]
  have hz : rightN [] = false := by decide
  have h120 : rightN [[120]] = false := by decide
  have hp := cluPrint_eq hK hK2 (l := [x]) (fun s hs => by simp at hs; rw [hs]; omega) (by simp; omega)
  have hp0 := cluPrint_eq hK hK2 (l := []) (fun s hs => by cases hs) (by simp; omega)
  have hr1 := cluRight_eq hK hK2 (l := [x]) (fun s hs => by simp at hs; rw [hs]; omega) (by simp; omega)
  have hr2 := cluRight_eq hK hK2 (l := [[120]]) (fun s hs => by simp at hs; rw [hs]; simp; omega) (by simp; omega)
  rw [if_pos hr] at hp
  rw [hz] at hp0
  rw [ammonitelaw14_ClusterRuns.eq, rsum_eq K (by simp), hx, Option.bind_some, hp, Option.bind_some, cluBack hK hK2 hr, Option.bind_some, hp0, hr1, hr2, hr, h120]
  simp [chks]
end
theorem clusterRuns_plain (x : (prodT []).den) (h : Fit (prodT []) x) : ammonitelaw14_ClusterRuns.f 1000000000000000 x = some true := cluRuns_eq (by omega) (by omega)
end Go.Proofs.Ytgmjbnglenmlpaa.Ab
