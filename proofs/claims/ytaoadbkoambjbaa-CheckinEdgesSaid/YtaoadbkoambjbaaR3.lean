/- Check-ins: what a text reads. -/
import Derived.Test.YtaoadbkoambjbaaR2
set_option linter.unusedVariables false
set_option linter.unusedSimpArgs false
set_option linter.unusedSectionVars false
set_option maxRecDepth 10000
namespace Go.Proofs.Ytaoadbkoambjbaa.Ab
open Go Go.RowKit Go.Proofs.Ytaoadbkoambjbaa.Given
theorem printB {l : List DCard} {s : List UInt8} (hr : rightB l = true) (h : printS l = s) (hs : s.length < 300000) : s ≠ [] ∧ l.length < 300000 ∧ ∀ c ∈ l, ∀ a ∈ c.2.1, a.length < 300000 := by
  unfold printS at h
  rw [hr] at h
  have h : sealS (bodyS l) = s := h
  have e : s.length = (bodyS l).length + 43 := by rw [← h]; unfold sealS; simp only [List.length_append, List.length_cons, List.length_nil, sumS_len]
  have := body_len l
  refine ⟨fun x => by rw [x] at e; simp at e, by omega, fun c hc a ha => ?_⟩
  have := body_mem l c hc
  have := args_len c a ha
  omega
def argsOf (k : Int) (l : List DCard) : List (List (List UInt8)) := (l.filter fun c => decide (c.1 = k)).map fun c => c.2.1
theorem argsOf_T (l : List DCard) : argsOf 84 l = argsT l := rfl
theorem argsOf_app (k : Int) (l m : List DCard) : argsOf k (l ++ m) = argsOf k l ++ argsOf k m := by simp [argsOf]
theorem argsOf_yes {k : Int} {c : DCard} (r : List DCard) (h : c.1 = k) : argsOf k (c :: r) = c.2.1 :: argsOf k r := by unfold argsOf; rw [List.filter_cons]; simp [h]
theorem argsOf_no {k : Int} {c : DCard} (r : List DCard) (h : ¬ c.1 = k) : argsOf k (c :: r) = argsOf k r := by unfold argsOf; rw [List.filter_cons]; simp [h]
theorem argsOf_map {α : Type} (k : Int) (f : α → DCard) (hf : ∀ a, (f a).1 = k) (l : List α) : argsOf k (l.map f) = l.map fun a => (f a).2.1 := by
  induction l with
  | nil => rfl
  | cons a l ih => rw [List.map_cons, argsOf_yes _ (hf a), ih]; rfl
theorem argsOf_other {α : Type} (k j : Int) (f : α → DCard) (hf : ∀ a, (f a).1 = j) (hj : ¬ j = k) (l : List α) : argsOf k (l.map f) = [] := by
  induction l with
  | nil => rfl
  | cons a l ih => rw [List.map_cons, argsOf_no _ (by rw [hf]; exact hj), ih]
theorem argsOf_mem {k : Int} {l : List DCard} {a : List (List UInt8)} (h : a ∈ argsOf k l) : ∃ c ∈ l, c.2.1 = a := by
  unfold argsOf at h
  obtain ⟨c, hc, rfl⟩ := List.mem_map.1 h
  exact ⟨c, (List.mem_filter.1 hc).1, rfl⟩
theorem argsOf_len (k : Int) (l : List DCard) : (argsOf k l).length ≤ l.length := by unfold argsOf; rw [List.length_map]; exact List.length_filter_le _ _
theorem ofA_argsOf (k : Int) : ∀ (l : List DCard) (i : Int), (ofA k i l).map (fun x => x.2.1) = argsOf k l := by
  intro l
  induction l with
  | nil => intro i; rfl
  | cons c l ih =>
    intro i
    unfold ofA
    by_cases h : c.1 = k
    · rw [if_pos h, argsOf_yes _ h, List.map_cons, ih]
    · rw [if_neg h, argsOf_no _ h, ih]
theorem chk_args (c : DChk) : argsOf 66 (chkCards c) = (if c.1 = [] then [] else [[c.1]]) ∧ argsOf 67 (chkCards c) = [[[46] ++ escS c.2.1]] ∧ argsOf 68 (chkCards c) = [[decS c.2.2.1]] ∧
    argsOf 70 (chkCards c) = c.2.2.2.1.map (fun f => (fileCard f).2.1) ∧ argsOf 80 (chkCards c) = (if c.2.2.2.2.1 = [] then [] else [c.2.2.2.2.1]) ∧ argsOf 84 (chkCards c) = c.2.2.2.2.2.1.map tagArgs ∧ argsOf 85 (chkCards c) = [[c.2.2.2.2.2.2.1]] := by
  have hF := fun (k : Int) (h : ¬ (70 : Int) = k) => argsOf_other k 70 fileCard (fun _ => rfl) h c.2.2.2.1
  have hT := fun (k : Int) (h : ¬ (84 : Int) = k) => argsOf_other k 84 tagCard (fun _ => rfl) h c.2.2.2.2.2.1
  have hF1 := argsOf_map 70 fileCard (fun _ => rfl) c.2.2.2.1
  have hT1 := argsOf_map 84 tagCard (fun _ => rfl) c.2.2.2.2.2.1
  have hB : ∀ k : Int, argsOf k (baseCards c.1) = if c.1 = [] then [] else (if (66 : Int) = k then [[c.1]] else []) := by
    intro k; unfold baseCards; split
    · rfl
    · by_cases e : (66 : Int) = k
      · rw [argsOf_yes _ e, if_pos e]; rfl
      · rw [argsOf_no _ e, if_neg e]; rfl
  have hP : ∀ k : Int, argsOf k (parCards c.2.2.2.2.1) = if c.2.2.2.2.1 = [] then [] else (if (80 : Int) = k then [c.2.2.2.2.1] else []) := by
    intro k; unfold parCards; split
    · rfl
    · by_cases e : (80 : Int) = k
      · rw [argsOf_yes _ e, if_pos e]; rfl
      · rw [argsOf_no _ e, if_neg e]; rfl
  have hH : ∀ k : Int, argsOf k (headCards c) = (if (67 : Int) = k then [[[46] ++ escS c.2.1]] else []) ++ (if (68 : Int) = k then [[decS c.2.2.1]] else []) := by
    intro k; unfold headCards
    by_cases e : (67 : Int) = k
    · rw [argsOf_yes _ e, if_pos e, argsOf_no _ (by show ¬ (68 : Int) = k; omega), if_neg (by omega)]; rfl
    · rw [argsOf_no _ e, if_neg e]
      by_cases e2 : (68 : Int) = k
      · rw [argsOf_yes _ e2, if_pos e2]; rfl
      · rw [argsOf_no _ e2, if_neg e2]; rfl
  have hU : ∀ k : Int, argsOf k [((85 : Int), [c.2.2.2.2.2.2.1], ())] = if (85 : Int) = k then [[c.2.2.2.2.2.2.1]] else [] := by
    intro k
    by_cases e : (85 : Int) = k
    · rw [argsOf_yes _ e, if_pos e]; rfl
    · rw [argsOf_no _ e, if_neg e]; rfl
  unfold chkCards
  simp only [argsOf_app, hB, hH, hP, hU]
  refine ⟨?_, ?_, ?_, ?_, ?_, ?_, ?_⟩
  · rw [hF 66 (by decide), hT 66 (by decide)]; by_cases e1 : c.1 = [] <;> by_cases e2 : c.2.2.2.2.1 = [] <;> simp [e1, e2]
  · rw [hF 67 (by decide), hT 67 (by decide)]; by_cases e1 : c.1 = [] <;> by_cases e2 : c.2.2.2.2.1 = [] <;> simp [e1, e2]
  · rw [hF 68 (by decide), hT 68 (by decide)]; by_cases e1 : c.1 = [] <;> by_cases e2 : c.2.2.2.2.1 = [] <;> simp [e1, e2]
  · rw [hF1, hT 70 (by decide)]; by_cases e1 : c.1 = [] <;> by_cases e2 : c.2.2.2.2.1 = [] <;> simp [e1, e2]
  · rw [hF 80 (by decide), hT 80 (by decide)]; by_cases e1 : c.1 = [] <;> by_cases e2 : c.2.2.2.2.1 = [] <;> simp [e1, e2]
  · rw [hF 84 (by decide), hT1]; by_cases e1 : c.1 = [] <;> by_cases e2 : c.2.2.2.2.1 = [] <;> simp [e1, e2, tagCard]
  · rw [hF 85 (by decide), hT 85 (by decide)]; by_cases e1 : c.1 = [] <;> by_cases e2 : c.2.2.2.2.1 = [] <;> simp [e1, e2]
section
variable {K : Nat} (hK : 1000000 ≤ K) (hK2 : K < 4611686018427387904)
include hK hK2
theorem one_loop (t4 : List (List UInt8)) (t5 : Int) : ∀ (v : List (Int × (List (List UInt8)) × Unit)) (out : List (List UInt8)) (n : Nat), n + v.length < 1000000 →
    card_One.i4 K v t4 t5 out (n : Int) = some (if n = 0 then (v.map fun x => x.2.1).headD out else out, ((n + v.length : Nat) : Int), ()) := by
  have _h := hK
  have _h2 := hK2
  intro v
  induction v with
  | nil => intro out n hn; rw [card_One.i4_nil]; simp
  | cons x v ih =>
    intro out n hn
    simp only [List.length_cons] at hn
    have e := fun out => ih out (n + 1) (by omega)
    rw [card_One.i4_cons, wS (by omega), e, e]
    cases n with
    | zero => simp; omega
    | succ n =>
      have : ¬ (((n + 1 : Nat) : Int) = 0) := by omega
      simp only [this, decide_false, cond_false, Nat.add_eq_zero_iff, Nat.one_ne_zero, and_false, if_false, List.length_cons]
      congr 3
      omega
theorem cardOne_eq {l : List DCard} {k : Int} (hl : l.length < 1000000) : card_One.f K ((l, k, ()) : List DCard × Int × Unit) = some ((argsOf k l).headD [], ((argsOf k l).length : Int), ()) := by
  have h1 := ofA_argsOf k l 0
  have h2 := ofA_len k l 0
  have := one_loop hK hK2 [] 0 (ofA k 0 l) [] 0 (by omega)
  rw [if_pos rfl, h1, Nat.zero_add] at this
  rw [card_One.eq, of_eq hl, Option.bind_some]
  refine Eq.trans this ?_
  rw [← h1, List.length_map]
def singleS : List (List (List UInt8)) → Option (List UInt8)
  | [[a]] => some a
  | _ => none
theorem single_eq {l : List DCard} {k : Int} (hl : l.length < 1000000) : checkin_single.f K ((l, k, ()) : List DCard × Int × Unit) = some (resU (singleS (argsOf k l))) := by
  rw [checkin_single.eq, cardOne_eq hK hK2 hl]
  simp only [Option.bind_some]
  match argsOf k l with
  | [] => rfl
  | [[]] => rfl
  | [[a]] => rfl
  | [a :: b :: r] =>
    have e : ¬ (((a :: b :: r : List (List UInt8)).length : Int) = 1) := by simp only [List.length_cons]; omega
    have e1 : decide ((([a :: b :: r] : List (List (List UInt8))).length : Int) = 1) = true := rfl
    show (bif (!decide ((([a :: b :: r] : List (List (List UInt8))).length : Int) = 1)) then _ else (bif (!decide (((a :: b :: r : List (List UInt8)).length : Int) = 1)) then _ else _)) = _
    rw [e1, decide_eq_false e]
    rfl
  | a :: b :: r =>
    have e : ¬ (((a :: b :: r : List (List (List UInt8))).length : Int) = 1) := by simp only [List.length_cons]; omega
    simp only [e, decide_false, Bool.not_false, cond_true]
    cases a with
    | nil => rfl
    | cons x a => cases a <;> rfl
def trimDot : List UInt8 → List UInt8
  | [] => []
  | c :: r => if c = 46 then r else c :: r
theorem trim_eq (s : List UInt8) : strings_TrimPrefix.f K ((s, [46], ()) : List UInt8 × List UInt8 × Unit) = some (trimDot s) := by
  have _h := hK
  have _h2 := hK2
  have hp : stringslite_HasPrefix.f K ((s, [46], ()) : List UInt8 × List UInt8 × Unit) = some (decide (s.take 1 = [46])) := by
    rw [stringslite_HasPrefix.eq]
    cases s with
    | nil => rfl
    | cons c r =>
      have h1 : ((([46] : List UInt8).length : Nat) : Int) ≤ (((c :: r : List UInt8).length : Nat) : Int) := by simp only [List.length_cons, List.length_nil]; omega
      simp only [h1, Int.natCast_nonneg, decide_true, cond_true, chks_t, chks_nil, cutL_to]
      rfl
  rw [strings_TrimPrefix.eq, stringslite_TrimPrefix.eq, hp]
  cases s with
  | nil => rfl
  | cons c r =>
    have h1 : ((([46] : List UInt8).length : Nat) : Int) ≤ (((c :: r : List UInt8).length : Nat) : Int) := by simp only [List.length_cons, List.length_nil]; omega
    simp only [Option.bind_some, h1, Int.natCast_nonneg, decide_true, chks_t, chks_nil, cutL_from]
    by_cases e : c = 46
    · subst e; rfl
    · have : ¬ ((c :: r).take 1 = [46]) := by simp [e]
      simp only [this, decide_false, cond_false, Option.bind_some, trimDot, if_neg e]
theorem trimDot_len (s : List UInt8) : (trimDot s).length ≤ s.length := by
  have _h := hK
  have _h2 := hK2
  cases s with
  | nil => simp [trimDot]
  | cons c r => rw [trimDot]; by_cases e : c = 46 <;> simp [e]
abbrev zChk : DChk := ([], [], 0, [], [], [], [], ())
def ReadsK (s : List UInt8) (r : Option (DChk × Bool × Unit)) : Prop :=
  ∃ c ok, r = some (c, ok, ()) ∧ (ok = true → rightK c = true ∧ chkS c = s) ∧ (ok = false → c = zChk) ∧ (∀ m, rightK m = true → chkS m = s → ok = true ∧ c = m)
def fileOf : List (List UInt8) → DFile
  | [a] => (a, [], ())
  | [a, b] => (a, b, ())
  | _ => ([], [], ())
theorem fileOf_card (f : DFile) : fileOf (fileCard f).2.1 = f := by
  have _h := hK
  have _h2 := hK2
  obtain ⟨a, b, ⟨⟩⟩ := f
  unfold fileCard
  by_cases e : b = []
  · subst e; rfl
  · simp only [e, if_false]; rfl
theorem ifin {s : List UInt8} (hs : s ≠ []) {c : DChk} (h : FitsK K c) (P : DChk → Prop) (hP : ∀ m, rightK m = true → chkS m = s → c = m) :
    ReadsK s ((checkin_Print.f K ((c, ()) : DChk × Unit)).bind fun v => bif (!(decide (v = s))) then some (zChk, false, ()) else some (c, true, ())) := by
  rw [chkPrint_eq hK hK2 h, Option.bind_some]
  cases hr : rightK c with
  | false =>
    refine ⟨zChk, false, ?_, (fun h => by cases h), fun _ => rfl, fun m h1 h2 => by rw [← hP m h1 h2, hr] at h1; cases h1⟩
    have : ¬ ([] : List UInt8) = s := fun e => hs e.symm
    simp [this]
  | true =>
    by_cases e : chkS c = s
    · exact ⟨c, true, by simp [e], fun _ => ⟨hr, e⟩, (fun h => by cases h), fun m m1 m2 => ⟨rfl, hP m m1 m2⟩⟩
    · exact ⟨zChk, false, by simp [e], (fun h => by cases h), fun _ => rfl, fun m h1 h2 => by have := hP m h1 h2; rw [← this] at h2; exact absurd h2 e⟩
theorem read_files (s : List UInt8) (r3 : Bool) (l : List DCard) (z0 z1 : List UInt8) (z2 : Int) (z6 : List UInt8) (b cm : List UInt8) (d : Int) (ts : List DTag) (u : List UInt8) : ∀ (v : List (Int × (List (List UInt8)) × Unit)) (fs : List DFile), fs.length + v.length < 1000000 →
    checkin_Read.i16 K v s r3 l z0 z1 z2 z6 b cm d fs ts u = checkin_Read.i16 K [] s r3 l z0 z1 z2 z6 b cm d (fs ++ v.map fun x => fileOf x.2.1) ts u := by
  have _h := hK
  have _h2 := hK2
  intro v
  induction v with
  | nil => intro fs _; simp
  | cons x v ih =>
    intro fs hl
    obtain ⟨i, args, ⟨⟩⟩ := x
    simp only [List.length_cons] at hl
    have ihn : ∀ f : DFile, checkin_Read.i16 K v s r3 l z0 z1 z2 z6 b cm d (fs ++ [f]) ts u = checkin_Read.i16 K [] s r3 l z0 z1 z2 z6 b cm d (fs ++ f :: v.map fun x => fileOf x.2.1) ts u := by
      intro f
      rw [ih (fs ++ [f]) (by simp; omega)]
      simp
    rw [checkin_Read.i16_cons, List.map_cons]
    match args with
    | [] =>
      have e1 : decide (((([] : List (List UInt8)).length : Nat) : Int) = 2) = false := rfl
      have e2 : decide (((([] : List (List UInt8)).length : Nat) : Int) = 1) = false := rfl
      simp only [e1, e2, cond_false]
      rw [growOk_t (by omega) (by simp; omega), chks_t, chks_nil]
      exact ihn ([], [], ())
    | [a] =>
      have e1 : decide (((([a] : List (List UInt8)).length : Nat) : Int) = 2) = false := rfl
      have e2 : decide (((([a] : List (List UInt8)).length : Nat) : Int) = 1) = true := rfl
      have e3 : decide ((0 : Int) < ((([a] : List (List UInt8)).length : Nat) : Int)) = true := rfl
      simp only [e1, e2, e3, cond_false, cond_true, chks_t, chks_nil]
      rw [growOk_t (by omega) (by simp; omega), chks_t, chks_nil]
      exact ihn (a, [], ())
    | [a, b'] =>
      have e1 : decide (((([a, b'] : List (List UInt8)).length : Nat) : Int) = 2) = true := rfl
      have e3 : decide ((0 : Int) < ((([a, b'] : List (List UInt8)).length : Nat) : Int)) = true := rfl
      have e4 : decide ((1 : Int) < ((([a, b'] : List (List UInt8)).length : Nat) : Int)) = true := rfl
      simp only [e1, e3, e4, cond_false, cond_true, chks_t, chks_nil]
      rw [growOk_t (by omega) (by simp; omega), chks_t, chks_nil]
      exact ihn (a, b', ())
    | a :: b' :: c :: r =>
      have e1 : decide ((((a :: b' :: c :: r : List (List UInt8)).length : Nat) : Int) = 2) = false := decide_eq_false (by simp only [List.length_cons]; omega)
      have e2 : decide ((((a :: b' :: c :: r : List (List UInt8)).length : Nat) : Int) = 1) = false := decide_eq_false (by simp only [List.length_cons]; omega)
      simp only [e1, e2, cond_false]
      rw [growOk_t (by omega) (by simp; omega), chks_t, chks_nil]
      exact ihn ([], [], ())
theorem fileOf_len {a : List (List UInt8)} {m : Nat} (h : ∀ x ∈ a, x.length < m) (hm : 0 < m) : (fileOf a).1.length < m ∧ (fileOf a).2.1.length < m := by
  have _h := hK
  have _h2 := hK2
  match a, h with
  | [], _ => exact ⟨hm, hm⟩
  | [a], h => exact ⟨h a (by simp), hm⟩
  | [a, b], h => exact ⟨h a (by simp), h b (by simp)⟩
  | _ :: _ :: _ :: _, _ => exact ⟨hm, hm⟩
theorem singleS_len {l : List DCard} {k : Int} {a : List UInt8} {m : Nat} (hb : ∀ c ∈ l, ∀ a ∈ c.2.1, a.length < m) (h : singleS (argsOf k l) = some a) : a.length < m := by
  have _h := hK
  have _h2 := hK2
  match e : argsOf k l, h with
  | [[a]], h =>
    cases h
    obtain ⟨c, hc, e2⟩ := argsOf_mem (k := k) (l := l) (a := [a]) (by rw [e]; simp)
    exact hb c hc a (by rw [e2]; simp)
theorem chkRead_eq {s : List UInt8} (hs : s.length < 300000) : ReadsK s (checkin_Read.f K ((s, ()) : List UInt8 × Unit)) := by
  obtain ⟨l, ok, h1, h2, h3, h4⟩ := read_eq hK hs
  have hm : ∀ m, rightK m = true → chkS m = s → ok = true ∧ l = chkCards m := fun m m1 m2 => by
    have ho := rightK_ok m1
    exact h4 (chkCards m) (chk_right ho).1 (by rw [chk_printS ho]; exact m2)
  rw [checkin_Read.eq, h1, Option.bind_some]
  dsimp only
  cases ok with
  | false => exact ⟨zChk, false, rfl, (fun h => by cases h), fun _ => rfl, fun m m1 m2 => by have := (hm m m1 m2).1; cases this⟩
  | true =>
    obtain ⟨hr, hp⟩ := h2 rfl
    obtain ⟨b1, b2, b3⟩ := printB hr hp hs
    have hll : l.length < 1000000 := by omega
    have hcomp : ∀ m, rightK m = true → chkS m = s → singleS (argsOf 67 l) = some ([46] ++ escS m.2.1) ∧ singleS (argsOf 68 l) = some (decS m.2.2.1) ∧ singleS (argsOf 85 l) = some m.2.2.2.2.2.2.1 ∧ tagsOf (argsT l) = some m.2.2.2.2.2.1 ∧
        (resU (singleS (argsOf 66 l))).1 = m.1 ∧ (argsOf 70 l).map fileOf = m.2.2.2.1 ∧ (argsOf 80 l).headD [] = m.2.2.2.2.1 ∧ 0 ≤ m.2.2.1 ∧ m.2.2.1 ≤ 1073741824 := by
      intro m m1 m2
      have e := (hm m m1 m2).2
      have ho := rightK_ok m1
      obtain ⟨a1, a2, a3, a4, a5, a6, a7⟩ := chk_args m
      rw [← argsOf_T, e, a1, a2, a3, a4, a5, a6, a7]
      refine ⟨rfl, rfl, rfl, tagsOf_args fun t ht => (ho.tags t ht).range, ?_, ?_, ?_, ho.d0, ho.d1⟩
      · by_cases e : m.1 = []
        · rw [if_pos e, e]; rfl
        · rw [if_neg e]; rfl
      · rw [List.map_map]
        exact (List.map_congr_left (g := id) fun f _ => fileOf_card hK hK2 f).trans (List.map_id _)
      · by_cases e : m.2.2.2.2.1 = []
        · rw [if_pos e, e]; rfl
        · rw [if_neg e]; rfl
    have hres : ∀ o : Option (List UInt8), (∀ a, o = some a → a.length < 300000) → (resU o).1.length < 300000 := by
      intro o ho
      cases o with
      | none => show 0 < 300000; omega
      | some a => exact ho a rfl
    have ltd := trimDot_len hK hK2 (resU (singleS (argsOf 67 l))).1
    obtain ⟨v, okv, r1, r2, r3, r4⟩ := readdec_eq hK (s := (resU (singleS (argsOf 68 l))).1) (by have := hres (singleS (argsOf 68 l)) fun a h => singleS_len hK hK2 b3 h; omega)
    have htg := readTags_eq hK (l := l) hll (fun c hc a ha => by have := b3 c hc a ha; omega)
    rw [single_eq hK hK2 hll, Option.bind_some, single_eq hK hK2 hll, Option.bind_some, single_eq hK hK2 hll, Option.bind_some, trim_eq hK hK2, Option.bind_some, uread_eq hK (by have := hres (singleS (argsOf 67 l)) fun a h => singleS_len hK hK2 b3 h; omega), Option.bind_some, r1, Option.bind_some, htg, Option.bind_some, single_eq hK hK2 hll, Option.bind_some, of_eq hll, Option.bind_some]
    simp only [Bool.not_true, cond_false]
    cases e67 : singleS (argsOf 67 l) with
    | none => exact ⟨zChk, false, rfl, (fun h => by cases h), fun _ => rfl, fun m m1 m2 => by have := (hcomp m m1 m2).1; rw [e67] at this; cases this⟩
    | some said =>
      cases e68 : singleS (argsOf 68 l) with
      | none => exact ⟨zChk, false, rfl, (fun h => by cases h), fun _ => rfl, fun m m1 m2 => by have := (hcomp m m1 m2).2.1; rw [e68] at this; cases this⟩
      | some date =>
        rw [e68] at r2 r4
        cases e85 : singleS (argsOf 85 l) with
        | none => exact ⟨zChk, false, rfl, (fun h => by cases h), fun _ => rfl, fun m m1 m2 => by have := (hcomp m m1 m2).2.2.1; rw [e85] at this; cases this⟩
        | some user =>
          have hsaid : ∀ m, rightK m = true → chkS m = s → unesc (trimDot said) = some m.2.1 := by
            intro m m1 m2
            have := (hcomp m m1 m2).1
            rw [e67] at this
            rw [Option.some.inj this]
            show unesc (escS m.2.1) = _
            exact unesc_escS _
          have hx : (resU (some said)).1 = said := rfl
          rw [hx]
          cases eun : unesc (trimDot said) with
          | none => exact ⟨zChk, false, rfl, (fun h => by cases h), fun _ => rfl, fun m m1 m2 => by have := hsaid m m1 m2; rw [eun] at this; cases this⟩
          | some text =>
            have hday : ∀ m, rightK m = true → chkS m = s → okv = true ∧ v = m.2.2.1 := by
              intro m m1 m2
              obtain ⟨_, q2, _, _, _, _, _, q8, q9⟩ := hcomp m m1 m2
              rw [e68] at q2
              exact r4 m.2.2.1 q8 q9 (Option.some.inj q2).symm
            cases okv with
            | false => exact ⟨zChk, false, rfl, (fun h => by cases h), fun _ => rfl, fun m m1 m2 => by have := (hday m m1 m2).1; cases this⟩
            | true =>
              cases etg : tagsOf (argsT l) with
              | none => exact ⟨zChk, false, rfl, (fun h => by cases h), fun _ => rfl, fun m m1 m2 => by have := (hcomp m m1 m2).2.2.2.1; rw [etg] at this; cases this⟩
              | some ts =>
                have hfl := ofA_len 70 l 0
                have hfa := ofA_argsOf 70 l 0
                show ReadsK s (checkin_Read.i16 K (ofA 70 0 l) s false l [] [] 0 [] (resU (singleS (argsOf 66 l))).1 text v [] ts user)
                rw [read_files hK hK2 s false l [] [] 0 [] _ text v ts user (ofA 70 0 l) [] (by simp; omega), checkin_Read.i16_nil, cardOne_eq hK hK2 hll, Option.bind_some]
                have hmap : (ofA 70 0 l).map (fun x => fileOf x.2.1) = (argsOf 70 l).map fileOf := by rw [← hfa, List.map_map]; rfl
                rw [List.nil_append, hmap]
                obtain ⟨t1, t2⟩ := tagsOf_len (m := 300000) etg fun a ha x hx => by
                  obtain ⟨c, c1, -, c2⟩ := argsT_mem ha
                  have := b3 c c1 x (by rw [c2]; exact hx)
                  omega
                have h84 := argsOf_len 84 l
                rw [argsOf_T] at h84
                have h70 := argsOf_len 70 l
                have h80 : ∀ x ∈ (argsOf 80 l).headD [], x.length < 300000 := by
                  cases e : argsOf 80 l with
                  | nil => intro x hx; cases hx
                  | cons a r =>
                    intro x hx
                    obtain ⟨c, c1, c2⟩ := argsOf_mem (k := 80) (l := l) (a := a) (by rw [e]; simp)
                    exact b3 c c1 x (by rw [c2]; exact hx)
                have h80l : ((argsOf 80 l).headD []).length < 300000 := by
                  cases e : argsOf 80 l with
                  | nil => show 0 < 300000; omega
                  | cons a r =>
                    obtain ⟨c, c1, c2⟩ := argsOf_mem (k := 80) (l := l) (a := a) (by rw [e]; simp)
                    show a.length < 300000
                    rw [← c2]
                    have h := args_num c
                    have h2 := body_mem l c c1
                    have h3 : s.length = (bodyS l).length + 43 := by
                      unfold printS at hp
                      rw [hr] at hp
                      have hp : sealS (bodyS l) = s := hp
                      rw [← hp]; unfold sealS; simp only [List.length_append, List.length_cons, List.length_nil, sumS_len]
                    omega
                have l85 : user.length < 300000 := singleS_len hK hK2 b3 e85
                have hk3 : 300000 ≤ K := by omega
                have l66 := hres (singleS (argsOf 66 l)) fun a h => singleS_len hK hK2 b3 h
                refine ifin hK hK2 (c := ((resU (singleS (argsOf 66 l))).1, text, v, (argsOf 70 l).map fileOf, (argsOf 80 l).headD [], ts, user, ())) b1 ⟨Nat.lt_of_lt_of_le l66 hk3, by show ((argsOf 70 l).map fileOf).length < K; rw [List.length_map]; omega, fun f hf => ?_, Nat.lt_of_lt_of_le h80l hk3, fun x hx => by have := h80 x hx; omega, by show ts.length < K; omega, fun t ht => by have := t2 t ht; omega, Nat.lt_of_lt_of_le l85 hk3⟩ (fun _ => True) fun m m1 m2 => ?_
                · obtain ⟨a, ha, rfl⟩ := List.mem_map.1 hf
                  obtain ⟨c, c1, c2⟩ := argsOf_mem ha
                  have := fileOf_len hK hK2 (a := a) (m := 300000) (fun x hx => b3 c c1 x (by rw [c2]; exact hx)) (by omega)
                  omega
                · obtain ⟨q1, q2, q3, q4, q5, q6, q7, q8, q9⟩ := hcomp m m1 m2
                  rw [e85] at q3
                  rw [etg] at q4
                  have q10 := hsaid m m1 m2
                  rw [eun] at q10
                  rw [q5, q6, q7, (hday m m1 m2).2, Option.some.inj q3, Option.some.inj q4, Option.some.inj q10]
theorem chkBack {c : DChk} (h : rightK c = true) : checkin_Read.f K ((chkS c, ()) : List UInt8 × Unit) = some (c, true, ()) := by
  have ho := rightK_ok h
  obtain ⟨x, ok, h1, h2, h3, h4⟩ := chkRead_eq hK hK2 (s := chkS c) (by have := (chkS_len ho).1; omega)
  obtain ⟨e1, e2⟩ := h4 c h rfl
  rw [h1, e1, e2]
theorem chkS_inj {a b : DChk} (ha : rightK a = true) (hb : rightK b = true) (h : chkS a = chkS b) : a = b := by
  have h1 := chkBack hK hK2 ha
  rw [h, chkBack hK hK2 hb] at h1
  simp only [Option.some.injEq, Prod.mk.injEq] at h1
  exact h1.1.symm
end
end Go.Proofs.Ytaoadbkoambjbaa.Ab
