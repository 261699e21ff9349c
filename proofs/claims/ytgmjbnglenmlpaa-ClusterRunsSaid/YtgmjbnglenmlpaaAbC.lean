import Derived.Test.YtgmjbnglenmlpaaAbB
import Derived.Sort.LoopGhostIn
import Derived.Scope
import Derived.RangeFuncLeaves
import Derived.Test.YtgmjbnglenmlpaaRF
section
/- The abstract machine: a state is brought into the form that a loop's head has. -/
set_option linter.unusedVariables false
set_option linter.unusedSimpArgs false
namespace Go.Proofs.Ytgmjbnglenmlpaa.Ab
open Go Go.RowKit
/-- What becomes of a slot, or a cell: a datum; a row of its own; it stays as it is. -/
inductive SK where
  | data (τ : DTy) | vec (τ : DTy) | raw
structure NormSpec where
  slots : List (Nat × SK)
  boxes : List (Nat × List SK)
  keep : List Nat
/-- An object of the new state: its name, itself, where it comes from. -/
abbrev Ent := Nat × AObj × Option Nat
def rawOk (ids : List Nat) : AVal → Bool
  | .ptr id _ => ids.elem id
  | .it id => ids.elem id
  | .nilp => true
  | .nils => true
  | .d _ _ => true
  | .und => true
  | .junk => true
  | .fn _ cap => cap.all fun
    | .ptr id _ => ids.elem id
    | .d _ _ => true
    | _ => false
  | _ => false
def asVec (O : Nat → AObj) (τ : DTy) : AVal → Option (List τ.den × Option Nat)
  | .vs id ver τ' l => (castD (.slice τ') (.slice τ) l).bind fun (l : List τ.den) => ifB (vecIs τ ver (O id)) (some (l, some id))
  | .nils => some ([], none)
  | .lit τ' l => (castD (.slice τ') (.slice τ) l).map fun (l : List τ.den) => (l, none)
  | _ => none
def normVal (O : Nat → AObj) (ids : List Nat) (name : Nat) (k : SK) (v : AVal) : Option (AVal × List Ent) :=
  match k with
  | .data τ => (as τ v).map fun x => (.d τ x, [])
  | .vec τ => (asVec O τ v).map fun p => (.vs name 0 τ p.1, [(name, .vec τ 0, p.2)])
  | .raw => ifB (rawOk ids v) (some (v, []))
def boxName (id j : Nat) : Nat := 10000 + 100 * id + j
def normSlots (O : Nat → AObj) (ids : List Nat) (tmps : Nat → AVal) : List (Nat × SK) → Option (List (Nat × AVal) × List Ent)
  | [] => some ([], [])
  | s :: r => ifB (Nat.blt s.1 10000) <| (normVal O ids s.1 s.2 (tmps s.1)).bind fun p => (normSlots O ids tmps r).map fun q => ((s.1, p.1) :: q.1, p.2 ++ q.2)
def normCells (O : Nat → AObj) (ids : List Nat) (id : Nat) : Nat → List SK → List AVal → Option (List AVal × List Ent)
  | _, [], [] => some ([], [])
  | j, k :: ks, v :: vs => (normVal O ids (boxName id j) k v).bind fun p => ifB p.1.leaf ((normCells O ids id (j + 1) ks vs).map fun q => (p.1 :: q.1, p.2 ++ q.2))
  | _, _, _ => none
def normBoxes (O : Nat → AObj) (ids : List Nat) : List (Nat × List SK) → Option (List Ent)
  | [] => some []
  | b :: r => ifB (Nat.ble b.2.length 100) <| (boxOf (O b.1)).bind fun cs => (normCells O ids b.1 0 b.2 cs).bind fun p => (normBoxes O ids r).map fun q => (b.1, .box p.1, some b.1) :: p.2 ++ q
def keepEnt (O : Nat → AObj) (id : Nat) : Option Ent := match O id with
  | .bld s => some (id, .bld s, some id)
  | .iter τ l => some (id, .iter τ l, some id)
  | _ => none
def lookE : List Ent → Nat → AObj
  | [], _ => .none
  | e :: r, i => cond (Nat.beq i e.1) e.2.1 (lookE r i)
def lookO : List Ent → Nat → Option Nat
  | [], _ => none
  | e :: r, i => cond (Nat.beq i e.1) e.2.2 (lookO r i)
def lookT : List (Nat × AVal) → Nat → AVal
  | [], _ => .junk
  | e :: r, i => cond (Nat.beq i e.1) e.2 (lookT r i)
def nodupB : List Nat → Bool
  | [] => true
  | a :: l => !(l.elem a) && nodupB l
def norm (s : NormSpec) (σ : St) : Option St :=
  (normSlots σ.objs (s.boxes.map (·.1) ++ s.keep) σ.tmps s.slots).bind fun p =>
  (normBoxes σ.objs (s.boxes.map (·.1) ++ s.keep) s.boxes).bind fun q =>
  (s.keep.mapM (keepEnt σ.objs)).bind fun r =>
  ifB (nodupB ((p.2 ++ q ++ r).map (·.1)) && nodupB ((p.2 ++ q ++ r).filterMap (·.2.2))) (some ⟨lookT p.1, lookE (p.2 ++ q ++ r)⟩)
theorem nodupB_spec : ∀ {l : List Nat}, nodupB l = true → l.Nodup := by
  intro l
  induction l with
  | nil => intro _; exact List.nodup_nil
  | cons a l ih =>
    intro h
    unfold nodupB at h
    simp only [Bool.and_eq_true, Bool.not_eq_true', List.elem_eq_contains, List.contains_eq_mem, decide_eq_false_iff_not] at h
    exact List.nodup_cons.2 ⟨h.1, ih h.2⟩
theorem look_mem : ∀ {es : List Ent}, (es.map (·.1)).Nodup → ∀ {e : Ent}, e ∈ es → lookE es e.1 = e.2.1 ∧ lookO es e.1 = e.2.2 := by
  intro es
  induction es with
  | nil => intro _ e he; cases he
  | cons a es ih =>
    intro hn e he
    rw [List.map_cons, List.nodup_cons] at hn
    unfold lookE lookO
    cases he with
    | head => simp
    | tail _ he =>
      have hne : e.1 ≠ a.1 := fun h => hn.1 (by rw [← h]; exact List.mem_map.2 ⟨e, he, rfl⟩)
      have hb : Nat.beq e.1 a.1 = false := by
        cases hb : Nat.beq e.1 a.1 with
        | false => rfl
        | true => exact absurd (Nat.eq_of_beq_eq_true hb) hne
      rw [hb]
      exact ih hn.2 he
theorem look_some : ∀ {es : List Ent} {i : Nat}, lookE es i ≠ .none → ∃ e, e ∈ es ∧ e.1 = i ∧ lookE es i = e.2.1 ∧ lookO es i = e.2.2 := by
  intro es
  induction es with
  | nil => intro i h; exact absurd rfl h
  | cons a es ih =>
    intro i h
    unfold lookE at h ⊢
    unfold lookO
    cases hb : Nat.beq i a.1 with
    | true => exact ⟨a, List.mem_cons_self, (Nat.eq_of_beq_eq_true hb).symm, rfl, rfl⟩
    | false =>
      rw [hb] at h
      obtain ⟨e, h1, h2, h3, h4⟩ := ih h
      exact ⟨e, List.mem_cons_of_mem _ h1, h2, h3, h4⟩
theorem org_inj : ∀ {es : List Ent}, (es.filterMap (·.2.2)).Nodup → ∀ {e e' : Ent} {o : Nat}, e ∈ es → e' ∈ es → e.2.2 = some o → e'.2.2 = some o → e = e' := by
  intro es
  induction es with
  | nil => intro _ e e' o he; cases he
  | cons a es ih =>
    intro hn e e' o he he' ho ho'
    have hn' : (es.filterMap (·.2.2)).Nodup := by
      rw [List.filterMap_cons] at hn
      split at hn
      · exact hn
      · exact (List.nodup_cons.1 hn).2
    cases he with
    | head =>
      cases he' with
      | head => rfl
      | tail _ he' =>
        rw [List.filterMap_cons, ho] at hn
        exact absurd (List.mem_filterMap.2 ⟨e', he', ho'⟩) (List.nodup_cons.1 hn).1
    | tail _ he =>
      cases he' with
      | head =>
        rw [List.filterMap_cons, ho'] at hn
        exact absurd (List.mem_filterMap.2 ⟨e, he, ho⟩) (List.nodup_cons.1 hn).1
      | tail _ he' => exact ih hn' he he' ho ho'
section
variable {π : Par} {fr : Nat → Prop} {w0 : World} {hw0 : Nat → Nat} {g : G} {O : Nat → AObj} {w : World}
/-- What is known of an object of the new state, its value v being at hand. -/
def EntOk (O : Nat → AObj) (C : Nat → Value) (e : Ent) : Prop :=
  match e.2.1, e.2.2 with
  | .vec τ _, some o => ∃ k, O o = .vec τ k
  | .vec τ _, none => ∃ A n, C e.1 = .slice A n n
  | .box _, some o => o = e.1 ∧ ∃ cs, O o = .box cs
  | .bld s, some o => o = e.1 ∧ O o = .bld s
  | .iter τ l, some o => o = e.1 ∧ O o = .iter τ l
  | _, _ => False
theorem asVec_rel {τ : DTy} {v : AVal} {p : List τ.den × Option Nat} {x : Value} (h : asVec O τ v = some p) (hr : ARel g O w v x) : CRel g.hw w (.slice τ) p.1 [x] ∧ (match p.2 with
    | some o => (∃ k, O o = .vec τ k) ∧ g.cur o = x
    | none => ∃ A n, x = .slice A n n) := by
  unfold asVec at h
  cases v with
  | vs id ver τ' l =>
    dsimp only at h
    obtain ⟨l', hl', h⟩ := bind_some h
    obtain ⟨e, rfl⟩ := castD_some hl'
    cases e
    obtain ⟨hv, h⟩ := ifB_some h
    cases h
    have hO : O id = .vec τ ver := by
      unfold vecIs at hv
      cases hOO : O id <;> rw [hOO] at hv <;> simp at hv
      obtain ⟨rfl, hkk⟩ := hv
      rw [hkk]
    cases hr with
    | vs hc ho hk hcur =>
      rw [hO] at ho
      cases ho
      exact ⟨hc, ⟨_, hO⟩, hcur rfl⟩
  | nils => cases h; cases hr; exact ⟨slice_nil, none, 0, rfl⟩
  | lit τ' l =>
    dsimp only at h
    obtain ⟨l', hl', h⟩ := Option.map_eq_some_iff.1 h
    obtain ⟨e, rfl⟩ := castD_some hl'
    cases e
    cases h
    cases hr with
    | lit hc => exact ⟨hc, _, _, rfl⟩
  | _ => cases h
/-- The new state's ghost. -/
def newG (g : G) (C : Nat → Value) (es : List Ent) : G where
  hw := g.hw
  loc := fun i => match lookO es i with
    | some o => g.loc o
    | none => 0
  cur := fun i => match lookO es i with
    | some o => g.cur o
    | none => C i
  own := fun i b => match lookO es i with
    | some o => g.own o b
    | none => False
/-- A value in the new state. -/
theorem normVal_rel {C : Nat → Value} {es : List Ent} (hn : (es.map (·.1)).Nodup) {ids : List Nat} (hids : ∀ i ∈ ids, (∃ cs, (i, AObj.box cs, some i) ∈ es ∧ ∃ cs', O i = .box cs') ∨ (∃ e ∈ es, keepEnt O i = some e ∧ e.1 = i ∧ e.2.2 = some i ∧ e.2.1 = O i))
    {name : Nat} {k : SK} {v v' : AVal} {x : Value} {es' : List Ent} (h : normVal O ids name k v = some (v', es')) (hsub : ∀ e ∈ es', e ∈ es) (hr : ARel g O w v x) (hC : C name = x) :
    ARel (newG g C es) (lookE es) w v' x ∧ ∀ e ∈ es', EntOk O C e := by
  unfold normVal at h
  cases k with
  | data τ =>
    dsimp only at h
    obtain ⟨y, hy, h⟩ := Option.map_eq_some_iff.1 h
    cases h
    obtain ⟨cs, hc, rfl⟩ := arel_d (as_rel hy hr)
    exact ⟨.d hc, fun e he => by cases he⟩
  | vec τ =>
    dsimp only at h
    obtain ⟨p, hp, h⟩ := Option.map_eq_some_iff.1 h
    cases h
    obtain ⟨hc, hsrc⟩ := asVec_rel hp hr
    have hmem := hsub (name, .vec τ 0, p.2) (by simp)
    obtain ⟨l1, l2⟩ := look_mem hn hmem
    dsimp only at l1 l2
    refine ⟨.vs hc l1 (Nat.le_refl _) (fun _ => ?_), fun e he => ?_⟩
    · show (match lookO es name with | some o => g.cur o | none => C name) = x
      rw [l2]
      cases hq : p.2 with
      | some o => rw [hq] at hsrc; exact hsrc.2
      | none => exact hC
    · simp at he
      subst he
      unfold EntOk
      dsimp only
      cases hq : p.2 with
      | some o => rw [hq] at hsrc; exact hsrc.1
      | none => rw [hq] at hsrc; dsimp only; rw [hC]; exact hsrc
  | raw =>
    dsimp only at h
    obtain ⟨hok, h⟩ := ifB_some h
    cases h
    refine ⟨?_, fun e he => by cases he⟩
    have ptr : ∀ {id off : Nat} {x : Value}, id ∈ ids → ARel g O w (.ptr id off) x → ARel (newG g C es) (lookE es) w (.ptr id off) x := by
      intro id off x hi hr
      cases hr with
      | ptr h1 h2 =>
      rcases hids id hi with ⟨cs, hm, _⟩ | ⟨e, hm, _, he1, he2, he3⟩
      · obtain ⟨l1, l2⟩ := look_mem hn hm
        dsimp only at l1 l2
        have : (newG g C es).loc id = g.loc id := by show (match lookO es id with | some o => g.loc o | none => 0) = _; rw [l2]
        rw [← this]
        exact .ptr (by rw [l1]; simp) (by rw [l1]; simp)
      · obtain ⟨l1, l2⟩ := look_mem hn hm
        rw [he1] at l1 l2
        rw [he2] at l2
        rw [he3] at l1
        have : (newG g C es).loc id = g.loc id := by show (match lookO es id with | some o => g.loc o | none => 0) = _; rw [l2]
        rw [← this]
        exact .ptr (by rw [l1]; exact h1) (by rw [l1]; exact h2)
    cases v with
    | ptr id off => exact ptr (by simpa [rawOk] using hok) hr
    | it id =>
      have hi : id ∈ ids := by simpa [rawOk] using hok
      cases hr with
      | it ho =>
      rcases hids id hi with ⟨cs, hm, cs', hb⟩ | ⟨e, hm, _, he1, he2, he3⟩
      · rw [hb] at ho; cases ho
      · obtain ⟨l1, l2⟩ := look_mem hn hm
        rw [he1] at l1 l2
        rw [he2] at l2
        rw [he3, ho] at l1
        have : (newG g C es).cur id = g.cur id := by show (match lookO es id with | some o => g.cur o | none => C id) = _; rw [l2]
        rw [← this]
        exact .it l1
    | nilp => cases hr; exact .nilp
    | nils => cases hr; exact .nils
    | d τ y => obtain ⟨cs, hc, rfl⟩ := arel_d hr; exact .d hc
    | und => cases hr; exact .und
    | junk => exact .junk
    | fn f cap =>
      cases hr with
      | fn hl hh =>
      refine .fn hl fun i hi => ?_
      have hci := List.all_eq_true.1 hok (cap.getD i .junk) (by rw [List.getD_eq_getElem?_getD, List.getElem?_eq_getElem hi]; exact List.getElem_mem hi)
      have hri := hh i hi
      generalize cap.getD i .junk = c at hci hri
      cases c with
      | ptr id off => exact ptr (by simpa using hci) hri
      | d τ y => obtain ⟨cs, hc, he⟩ := arel_d hri; rw [he]; exact .d hc
      | _ => cases hci
    | _ => cases hok
/-- The values of the new names. -/
def newC (g : G) (w : World) (a : Act) : Nat → Value := fun name => if name < 10000 then a.tmps.getD name undef else (w.cell? ⟨g.loc ((name - 10000) / 100), (name - 10000) % 100, none⟩).getD undef
theorem newC_slot {a : Act} {t : Nat} (h : t < 10000) : newC g w a t = a.tmps.getD t undef := by unfold newC; rw [if_pos h]
theorem newC_cell {a : Act} {id j : Nat} (h : j < 100) : newC g w a (boxName id j) = (w.cell? ⟨g.loc id, j, none⟩).getD undef := by
  unfold newC boxName
  rw [if_neg (by omega)]
  have e1 : (10000 + 100 * id + j - 10000) / 100 = id := by omega
  have e2 : (10000 + 100 * id + j - 10000) % 100 = j := by omega
  rw [e1, e2]
/-- What stands for the names that are kept. -/
def IdsOk (O : Nat → AObj) (es : List Ent) (ids : List Nat) : Prop := ∀ i ∈ ids, (∃ cs, (i, AObj.box cs, some i) ∈ es ∧ ∃ cs', O i = .box cs') ∨ (∃ e ∈ es, keepEnt O i = some e ∧ e.1 = i ∧ e.2.2 = some i ∧ e.2.1 = O i)
theorem normSlots_rel {nt : Nat} {σ : St} {a : Act} {es : List Ent} (hn : (es.map (·.1)).Nodup) {ids : List Nat} (hids : IdsOk σ.objs es ids) (hr : FrR nt g σ a w) :
    ∀ {sl : List (Nat × SK)} {p : List (Nat × AVal) × List Ent}, normSlots σ.objs ids σ.tmps sl = some p → (∀ e ∈ p.2, e ∈ es) → (∀ t, ARel (newG g (newC g w a) es) (lookE es) w (lookT p.1 t) (a.tmps.getD t undef)) ∧ ∀ e ∈ p.2, EntOk σ.objs (newC g w a) e := by
  intro sl
  induction sl with
  | nil => intro p h _; cases h; exact ⟨fun t => .junk, fun e he => by cases he⟩
  | cons s sl ih =>
    intro p h hsub
    unfold normSlots at h
    obtain ⟨hlt, h⟩ := ifB_some h
    obtain ⟨q, hq, h⟩ := bind_some h
    obtain ⟨q2, hq2, h⟩ := Option.map_eq_some_iff.1 h
    cases h
    obtain ⟨h1, h2⟩ := ih hq2 (fun e he => hsub e (List.mem_append_right _ he))
    obtain ⟨v, es'⟩ := q
    have hlt : s.1 < 10000 := by simpa using hlt
    obtain ⟨h3, h4⟩ := normVal_rel hn hids hq (fun e he => hsub e (List.mem_append_left _ he)) (hr.tmps s.1) (newC_slot hlt)
    refine ⟨fun t => ?_, fun e he => ?_⟩
    · unfold lookT
      dsimp only
      cases hb : Nat.beq t s.1 with
      | true => rw [Nat.eq_of_beq_eq_true hb]; exact h3
      | false => exact h1 t
    · rcases List.mem_append.1 he with he | he
      · exact h4 e he
      · exact h2 e he
theorem normCells_rel {a : Act} {es : List Ent} (hn : (es.map (·.1)).Nodup) {ids : List Nat} (hids : IdsOk O es ids) {id : Nat} {arr : Array Value} {T : TypeId} (hb : w.heap[g.loc id]? = some (.cells arr T (0, 0))) :
    ∀ {ks : List SK} {us : List AVal} {j : Nat} {p : List AVal × List Ent}, normCells O ids id j ks us = some p → (∀ e ∈ p.2, e ∈ es) → AllR (ARel g O w) us (arr.toList.drop j) → j + us.length ≤ 100 →
      AllR (ARel (newG g (newC g w a) es) (lookE es) w) p.1 (arr.toList.drop j) ∧ ∀ e ∈ p.2, EntOk O (newC g w a) e := by
  intro ks
  induction ks with
  | nil =>
    intro us j p h hsub hr _
    cases us with
    | cons _ _ => cases h
    | nil =>
      cases h
      refine ⟨?_, fun e he => by cases he⟩
      cases hd : arr.toList.drop j with
      | nil => trivial
      | cons _ _ => rw [hd] at hr; exact hr.elim
  | cons k ks ih =>
    intro us j p h hsub hr hlen
    cases us with
    | nil => cases h
    | cons u us =>
      unfold normCells at h
      obtain ⟨q, hq, h⟩ := bind_some h
      obtain ⟨_, h⟩ := ifB_some h
      obtain ⟨q2, hq2, h⟩ := Option.map_eq_some_iff.1 h
      cases h
      cases hd : arr.toList.drop j with
      | nil => rw [hd] at hr; exact hr.elim
      | cons x xs =>
        rw [hd] at hr
        have hxs : arr.toList.drop (j + 1) = xs := by
          have := congrArg List.tail hd
          simpa using this
        have hx : arr[j]? = some x := by
          have := congrArg (fun l => l[0]?) hd
          simpa using this
        obtain ⟨v, es'⟩ := q
        have hC : newC g w a (boxName id j) = x := by
          rw [newC_cell (by simp at hlen; omega), cell_of_row w _ j arr T (0, 0) hb, hx]
          rfl
        obtain ⟨h3, h4⟩ := normVal_rel hn hids hq (fun e he => hsub e (List.mem_append_left _ he)) hr.1 hC
        obtain ⟨h1, h2⟩ := ih (j := j + 1) hq2 (fun e he => hsub e (List.mem_append_right _ he)) (by rw [hxs]; exact hr.2) (by simp at hlen; omega)
        rw [hxs] at h1
        refine ⟨⟨h3, h1⟩, fun e he => ?_⟩
        rcases List.mem_append.1 he with he | he
        · exact h4 e he
        · exact h2 e he
theorem normBoxes_rel (hs : Sim π fr w0 hw0 g O w) {a : Act} {es : List Ent} (hn : (es.map (·.1)).Nodup) {ids : List Nat} (hids : IdsOk O es ids) :
    ∀ {bs : List (Nat × List SK)} {q : List Ent}, normBoxes O ids bs = some q → (∀ e ∈ q, e ∈ es) → ∀ e ∈ q, EntOk O (newC g w a) e ∧ ∀ cs, e.2.1 = .box cs → ∃ arr T, w.heap[g.loc e.1]? = some (.cells arr T (0, 0)) ∧ AllR (ARel (newG g (newC g w a) es) (lookE es) w) cs arr.toList := by
  intro bs
  induction bs with
  | nil => intro q h _ e he; cases h; cases he
  | cons b bs ih =>
    intro q h hsub
    unfold normBoxes at h
    obtain ⟨hl, h⟩ := ifB_some h
    obtain ⟨cs, hcs, h⟩ := bind_some h
    obtain ⟨p, hp, h⟩ := bind_some h
    obtain ⟨r, hr, h⟩ := Option.map_eq_some_iff.1 h
    cases h
    have hbox := boxOf_some hcs
    obtain ⟨_, _, arr, T, hb1, hb2, hb3⟩ := hs.box hbox
    have hlen : ∀ {ks : List SK} {us : List AVal} {j : Nat} {p : List AVal × List Ent}, normCells O ids b.1 j ks us = some p → us.length = ks.length := by
      intro ks
      induction ks with
      | nil => intro us j p h; cases us with
        | nil => rfl
        | cons _ _ => cases h
      | cons k ks ihk => intro us j p h; cases us with
        | nil => cases h
        | cons u us =>
          unfold normCells at h
          obtain ⟨q, hq, h⟩ := bind_some h
          obtain ⟨_, h⟩ := ifB_some h
          obtain ⟨q2, hq2, h⟩ := Option.map_eq_some_iff.1 h
          simp [ihk hq2]
    have hl2 := hlen hp
    have hl := Nat.le_of_ble_eq_true hl
    obtain ⟨h1, h2⟩ := normCells_rel (a := a) hn hids hb1 hp (fun e he => hsub e (by simp; right; left; exact he)) (by rw [List.drop_zero]; exact hb2) (by omega)
    rw [List.drop_zero] at h1
    have h3 := ih hr (fun e he => hsub e (by simp; right; right; exact he))
    intro e he
    have he : e = (b.1, .box p.1, some b.1) ∨ e ∈ p.2 ∨ e ∈ r := by simpa using he
    rcases he with rfl | he | he
    · refine ⟨⟨rfl, cs, hbox⟩, fun cs' hc => ?_⟩
      cases hc
      exact ⟨arr, T, hb1, h1⟩
    · refine ⟨h2 e he, fun cs' hc => ?_⟩
      exfalso
      -- the cells' own names stand for rows alone
      have : ∀ {ks : List SK} {us : List AVal} {j : Nat} {p : List AVal × List Ent}, normCells O ids b.1 j ks us = some p → ∀ e ∈ p.2, ∃ τ k, e.2.1 = .vec τ k := by
        intro ks
        induction ks with
        | nil => intro us j p h; cases us with
          | nil => cases h; intro e he; cases he
          | cons _ _ => cases h
        | cons k ks ihk => intro us j p h; cases us with
          | nil => cases h
          | cons u us =>
            unfold normCells at h
            obtain ⟨q, hq, h⟩ := bind_some h
            obtain ⟨_, h⟩ := ifB_some h
            obtain ⟨q2, hq2, h⟩ := Option.map_eq_some_iff.1 h
            cases h
            intro e he
            rcases List.mem_append.1 he with he | he
            · unfold normVal at hq
              cases k with
              | data τ => obtain ⟨y, hy, hq⟩ := Option.map_eq_some_iff.1 hq; cases hq; cases he
              | vec τ => obtain ⟨y, hy, hq⟩ := Option.map_eq_some_iff.1 hq; cases hq; simp at he; subst he; exact ⟨τ, 0, rfl⟩
              | raw => obtain ⟨_, hq⟩ := ifB_some hq; cases hq; cases he
            · exact ihk hq2 e he
      obtain ⟨τ, k, hv⟩ := this hp e he
      rw [hv] at hc
      cases hc
    · exact h3 e he
theorem keepEnt_some {id : Nat} {e : Ent} (h : keepEnt O id = some e) : e = (id, O id, some id) ∧ ((∃ s, O id = .bld s) ∨ ∃ τ l, O id = .iter τ l) := by
  unfold keepEnt at h
  split at h
  · rename_i s hs; cases h; rw [hs]; exact ⟨rfl, .inl ⟨s, rfl⟩⟩
  · rename_i τ l hs; cases h; rw [hs]; exact ⟨rfl, .inr ⟨τ, l, rfl⟩⟩
  · cases h
theorem mapM_mem {α β : Type} {f : α → Option β} : ∀ {l : List α} {r : List β}, l.mapM f = some r → (∀ y ∈ r, ∃ x ∈ l, f x = some y) ∧ ∀ x ∈ l, ∃ y ∈ r, f x = some y := by
  intro l
  induction l with
  | nil => intro r h; simp at h; subst h; exact ⟨fun y hy => (by cases hy), fun x hx => (by cases hx)⟩
  | cons a l ih =>
    intro r h
    simp only [List.mapM_cons, Option.bind_eq_bind, Option.pure_def] at h
    obtain ⟨b, hb, h⟩ := bind_some h
    obtain ⟨r', hr', h⟩ := bind_some h
    cases h
    obtain ⟨h1, h2⟩ := ih hr'
    refine ⟨fun y hy => ?_, fun x hx => ?_⟩
    · cases hy with
      | head => exact ⟨a, List.mem_cons_self, hb⟩
      | tail _ hy => obtain ⟨x, hx, hf⟩ := h1 y hy; exact ⟨x, List.mem_cons_of_mem _ hx, hf⟩
    · cases hx with
      | head => exact ⟨b, List.mem_cons_self, hb⟩
      | tail _ hx => obtain ⟨y, hy, hf⟩ := h2 x hx; exact ⟨y, List.mem_cons_of_mem _ hy, hf⟩
theorem boxes_mem {ids : List Nat} : ∀ {bs : List (Nat × List SK)} {q : List Ent}, normBoxes O ids bs = some q → ∀ b ∈ bs, ∃ cs, (b.1, AObj.box cs, some b.1) ∈ q ∧ ∃ cs', O b.1 = .box cs' := by
  intro bs
  induction bs with
  | nil => intro q _ b hb; cases hb
  | cons b bs ih =>
    intro q h x hx
    unfold normBoxes at h
    obtain ⟨hl, h⟩ := ifB_some h
    obtain ⟨cs, hcs, h⟩ := bind_some h
    obtain ⟨p, hp, h⟩ := bind_some h
    obtain ⟨r, hr, h⟩ := Option.map_eq_some_iff.1 h
    cases h
    cases hx with
    | head => exact ⟨p.1, by simp, cs, boxOf_some hcs⟩
    | tail _ hx => obtain ⟨c, h1, h2⟩ := ih hr x hx; exact ⟨c, by simp; right; right; exact h1, h2⟩
theorem norm_sound (hπ : π.Ok) {nt : Nat} {σ σ' : St} {a : Act} {s : NormSpec} (h : norm s σ = some σ') (hs : Sim π fr w0 hw0 g σ.objs w) (hr : FrR nt g σ a w) :
    ∃ g', Sim π fr w0 hw0 g' σ'.objs w ∧ FrR nt g' σ' a w ∧ g'.hw = g.hw ∧
      ∀ i b, σ'.objs i ≠ .none → g'.own i b → ∃ o, σ.objs o ≠ .none ∧ g.own o b ∧ ∀ τ l, σ.objs o = .iter τ l → σ'.objs o ≠ .none := by
  unfold norm at h
  obtain ⟨p, hp, h⟩ := bind_some h
  obtain ⟨q, hq, h⟩ := bind_some h
  obtain ⟨r, hrr, h⟩ := bind_some h
  obtain ⟨hnd, h⟩ := ifB_some h
  cases h
  simp only [Bool.and_eq_true] at hnd
  have hn := nodupB_spec hnd.1
  have ho := nodupB_spec hnd.2
  generalize hes : p.2 ++ q ++ r = es at hn ho
  have inp : ∀ e ∈ p.2, e ∈ es := fun e he => by rw [← hes]; simp [he]
  have inq : ∀ e ∈ q, e ∈ es := fun e he => by rw [← hes]; simp [he]
  have inr : ∀ e ∈ r, e ∈ es := fun e he => by rw [← hes]; simp [he]
  obtain ⟨k1, k2⟩ := mapM_mem hrr
  have hids : IdsOk σ.objs es (s.boxes.map (·.1) ++ s.keep) := by
    intro i hi
    rcases List.mem_append.1 hi with hi | hi
    · obtain ⟨b, hb, rfl⟩ := List.mem_map.1 hi
      obtain ⟨cs, h1, h2⟩ := boxes_mem hq b hb
      exact .inl ⟨cs, inq _ h1, h2⟩
    · obtain ⟨e, he, hk⟩ := k2 i hi
      obtain ⟨rfl, _⟩ := keepEnt_some hk
      exact .inr ⟨_, inr _ he, hk, rfl, rfl, rfl⟩
  obtain ⟨f1, f2⟩ := normSlots_rel hn hids hr hp inp
  have f3 := normBoxes_rel hs (a := a) hn hids hq inq
  have ent : ∀ e ∈ es, EntOk σ.objs (newC g w a) e ∧ ∀ cs, e.2.1 = .box cs → ∃ arr T, w.heap[g.loc e.1]? = some (.cells arr T (0, 0)) ∧ AllR (ARel (newG g (newC g w a) es) (lookE es) w) cs arr.toList := by
    intro e he
    rw [← hes] at he
    rcases List.mem_append.1 he with he | he
    · rcases List.mem_append.1 he with he | he
      · refine ⟨f2 e he, fun cs hc => ?_⟩
        exfalso
        have : ∀ {sl : List (Nat × SK)} {p : List (Nat × AVal) × List Ent}, normSlots σ.objs (s.boxes.map (·.1) ++ s.keep) σ.tmps sl = some p → ∀ e ∈ p.2, ∃ τ k, e.2.1 = .vec τ k := by
          intro sl
          induction sl with
          | nil => intro p h e he; cases h; cases he
          | cons x sl ih =>
            intro p h e he
            unfold normSlots at h
            obtain ⟨_, h⟩ := ifB_some h
            obtain ⟨q, hq, h⟩ := bind_some h
            obtain ⟨q2, hq2, h⟩ := Option.map_eq_some_iff.1 h
            cases h
            rcases List.mem_append.1 he with he | he
            · unfold normVal at hq
              cases hk : x.2 with
              | data τ => rw [hk] at hq; obtain ⟨y, hy, hq⟩ := Option.map_eq_some_iff.1 hq; cases hq; cases he
              | vec τ => rw [hk] at hq; obtain ⟨y, hy, hq⟩ := Option.map_eq_some_iff.1 hq; cases hq; simp at he; subst he; exact ⟨τ, 0, rfl⟩
              | raw => rw [hk] at hq; obtain ⟨_, hq⟩ := ifB_some hq; cases hq; cases he
            · exact ih hq2 e he
        obtain ⟨τ, k, hv⟩ := this hp e he
        rw [hv] at hc
        cases hc
      · exact f3 e he
    · obtain ⟨i, hi, hk⟩ := k1 e he
      obtain ⟨rfl, hh⟩ := keepEnt_some hk
      rcases hh with ⟨t, ht⟩ | ⟨τ, l, ht⟩
      · refine ⟨?_, fun cs hc => ?_⟩
        · unfold EntOk; simp only [ht]; exact ⟨trivial, trivial⟩
        · rw [ht] at hc; cases hc
      · refine ⟨?_, fun cs hc => ?_⟩
        · unfold EntOk; simp only [ht]; exact ⟨trivial, trivial⟩
        · rw [ht] at hc; cases hc
  have org : ∀ i, lookE es i ≠ .none → ∃ e, e ∈ es ∧ e.1 = i ∧ lookE es i = e.2.1 ∧ lookO es i = e.2.2 := fun i hi => look_some hi
  have own' : ∀ i b, lookE es i ≠ .none → (newG g (newC g w a) es).own i b → ∃ e o, e ∈ es ∧ e.1 = i ∧ e.2.2 = some o ∧ σ.objs o ≠ .none ∧ g.own o b ∧ ∀ τ l, σ.objs o = .iter τ l → lookE es o ≠ .none := by
    intro i b hi hb
    obtain ⟨e, he, h1, h2, h3⟩ := org i hi
    have hb' : (match lookO es i with | some o => g.own o b | none => False) := hb
    rw [h3] at hb'
    cases ho' : e.2.2 with
    | none => rw [ho'] at hb'; exact hb'.elim
    | some o =>
      rw [ho'] at hb'
      refine ⟨e, o, he, h1, ho', ?_, hb', fun τ l hi => ?_⟩
      rotate_left
      · have := (ent e he).1
        unfold EntOk at this
        rw [ho'] at this
        cases hx : e.2.1 <;> rw [hx] at this
        case vec τ k => obtain ⟨k', hk'⟩ := this; rw [hk'] at hi; cases hi
        case box cs => obtain ⟨_, cs', hk'⟩ := this; rw [hk'] at hi; cases hi
        case bld t => rw [this.2] at hi; cases hi
        case iter τ l => rw [this.1, h1, h2, hx]; simp
        case none => exact this.elim
      have := (ent e he).1
      unfold EntOk at this
      rw [ho'] at this
      cases hx : e.2.1 <;> rw [hx] at this
      case vec τ k => obtain ⟨k', hk'⟩ := this; rw [hk']; simp
      case box cs => obtain ⟨_, cs', hk'⟩ := this; rw [hk']; simp
      case bld t => rw [this.2]; simp
      case iter τ l => rw [this.2]; simp
      case none => exact this.elim
  refine ⟨newG g (newC g w a) es, ⟨hs.os, hs.tape, hs.output, hs.size, hs.frl, hs.frame, hs.hwz, fun i => ?_, fun i b hi hb => ?_, fun i i' b hi hi' hb hb' => ?_, fun i b hi hb => ?_⟩, ⟨hr.size, f1⟩, rfl, fun i b hi hb => ?_⟩
  · by_cases hi : lookE es i = .none
    · unfold ObjOk
      dsimp only
      rw [hi]; trivial
    · obtain ⟨e, he, rfl, h2, h3⟩ := org i hi
      obtain ⟨he1, he2⟩ := ent e he
      unfold ObjOk
      dsimp only
      rw [h2]
      unfold EntOk at he1
      have gl : ∀ o, e.2.2 = some o → (newG g (newC g w a) es).loc e.1 = g.loc o ∧ (newG g (newC g w a) es).cur e.1 = g.cur o ∧ ∀ b, (newG g (newC g w a) es).own e.1 b ↔ g.own o b := by
        intro o ho'
        rw [ho'] at h3
        refine ⟨?_, ?_, fun b => ?_⟩
        · show (match lookO es e.1 with | some o => g.loc o | none => 0) = _; rw [h3]
        · show (match lookO es e.1 with | some o => g.cur o | none => newC g w a e.1) = _; rw [h3]
        · show (match lookO es e.1 with | some o => g.own o b | none => False) ↔ _; rw [h3]
      cases hx : e.2.1 with
      | none => rw [hx] at he1; exact he1.elim
      | box cs =>
        rw [hx] at he1
        cases ho' : e.2.2 with
        | none => rw [ho'] at he1; exact he1.elim
        | some o =>
          rw [ho'] at he1
          obtain ⟨rfl, cs', hb⟩ := he1
          obtain ⟨q1, q2, q3⟩ := gl _ ho'
          obtain ⟨b1, b2, arr, T, b3, b4, b5⟩ := hs.box hb
          obtain ⟨arr', T', c1, c2⟩ := he2 cs hx
          rw [b3] at c1
          cases c1
          exact ⟨fun b => by rw [q3, b1, q1], by rw [q1]; exact b2, arr, T, by rw [q1]; exact b3, c2, b5⟩
      | vec τ k =>
        rw [hx] at he1
        cases ho' : e.2.2 with
        | none =>
          rw [ho'] at he1 h3
          obtain ⟨A, n, hC⟩ := he1
          refine ⟨A, n, n, ?_, Nat.le_refl _, .inl ⟨rfl, fun b hb => ?_⟩⟩
          · show (match lookO es e.1 with | some o => g.cur o | none => newC g w a e.1) = _; rw [h3]; exact hC
          · have hb' : (match lookO es e.1 with | some o => g.own o b | none => False) := hb
            rw [h3] at hb'
            exact hb'
        | some o =>
          rw [ho'] at he1
          obtain ⟨k', hk'⟩ := he1
          obtain ⟨q1, q2, q3⟩ := gl _ ho'
          have hob := hs.obj o
          unfold ObjOk at hob
          rw [hk'] at hob
          obtain ⟨A, n, c, v1, v2, v3⟩ := hob
          refine ⟨A, n, c, by rw [q2]; exact v1, v2, ?_⟩
          rcases v3 with ⟨v3, v4⟩ | ⟨arr, T, v3, v4, v5, v6, v7⟩
          · exact .inl ⟨v3, fun b hb => v4 b ((q3 b).1 hb)⟩
          · exact .inr ⟨arr, T, by rw [q1]; exact v3, by rw [q1]; exact v4, v5, by rw [q1]; exact v6, fun b => by rw [q3, v7, q1]⟩
      | bld t =>
        rw [hx] at he1
        cases ho' : e.2.2 with
        | none => rw [ho'] at he1; exact he1.elim
        | some o =>
          rw [ho'] at he1
          obtain ⟨rfl, hb⟩ := he1
          obtain ⟨q1, q2, q3⟩ := gl _ ho'
          have hob := hs.obj e.1
          unfold ObjOk at hob
          rw [hb] at hob
          obtain ⟨v1, v2, v3, v4, v5⟩ := hob
          exact ⟨by rw [q1]; exact v1, by rw [q1]; exact (q3 _).2 v2, fun b hb => v3 b ((q3 b).1 hb), fun b hb => (q3 b).2 (v4 b (by rw [← q2]; exact hb)), by rw [q1, q2]; exact v5⟩
      | iter τ l =>
        rw [hx] at he1
        cases ho' : e.2.2 with
        | none => rw [ho'] at he1; exact he1.elim
        | some o =>
          rw [ho'] at he1
          obtain ⟨rfl, hb⟩ := he1
          obtain ⟨q1, q2, q3⟩ := gl _ ho'
          have hob := hs.obj e.1
          unfold ObjOk at hob
          rw [hb] at hob
          exact ⟨fun b hb => hob.1 b ((q3 b).1 hb), hπ.it (g := g) (g' := newG g (newC g w a) es) (w := w) (w' := w) (fun b => Nat.le_refl _) (fun b o _ => rfl) (fun b _ => rfl) q3 q2 hob.2⟩
  · obtain ⟨e, o, _, _, _, ho1, ho2, _⟩ := own' i b hi hb
    exact hs.own o b ho1 ho2
  · obtain ⟨e, o, h1, h2, h3, h4, h5, _⟩ := own' i b hi hb
    obtain ⟨e', o', h1', h2', h3', h4', h5', _⟩ := own' i' b hi' hb'
    have := hs.disj o o' b h4 h4' h5 h5'
    subst this
    have := org_inj ho h1 h1' h3 h3'
    subst this
    rw [← h2, ← h2']
  · obtain ⟨e, o, _, _, _, ho1, ho2, _⟩ := own' i b hi hb
    exact hs.ownc o b ho1 ho2
  · obtain ⟨e, o, _, _, _, ho1, ho2, ho3⟩ := own' i b hi hb
    exact ⟨o, ho1, ho2, ho3⟩
end
end Go.Proofs.Ytgmjbnglenmlpaa.Ab
end
section
/- The abstract machine: code, and what a function is. -/
set_option linter.unusedVariables false
set_option linter.unusedSimpArgs false
namespace Go.Proofs.Ytgmjbnglenmlpaa.Ab
open Go Go.RowKit
section scope
variable {P : Program} {b : Frame} {a : Act} {k : List Item} {cs : List Frame} {w : World} {Q : Exit → Act → World → Prop} {F : Fence} {n : Nat}
theorem stepR_scope {c : Code} : step P (lone (b.atR a (.code (.scope c) :: k)) cs w) = .next (lone (b.atR a (.code c :: .inScope c :: k)) cs w) :=
  step_lone_go (by simp [stepG, stepG.exec, Frame.atR])
theorem stepR_inScope {c : Code} : step P (lone (b.atR a (.inScope c :: k)) cs w) = .next (lone (b.atR a k) cs w) :=
  step_lone_go (by simp [stepG, stepG.exec, Frame.atR])
theorem wpIn_scope {c : Code} (h : c.wpIn F n P (Exit.noGoto Q) a w) : (Code.scope c).wpIn F n P Q a w := by
  intro b k cs hro hb hr
  have h0 : (lone (b.atR a (.code (.scope c) :: k)) cs w).fenced P F := fenced_calm hb hr rfl
  obtain ⟨e, a₁, w₁, hq, harr⟩ := h b (.inScope c :: k) cs hro hb hr
  cases e with
  | normal => exact ⟨.normal, a₁, w₁, hq, .head h0 stepR_scope (StepsIn.trans harr (.one (fenced_calm hb hr rfl) stepR_inScope))⟩
  | exit id =>
    have hx : exitTo id (.inScope c :: k) = exitTo id k := by simp [exitTo]
    exact ⟨.exit id, a₁, w₁, hq, fun k' hk => .head h0 stepR_scope (harr.1 k' (by rw [hx]; exact hk)),
      fun hr' hk => let ⟨k₁, h1, h2⟩ := harr.2 hr' (by rw [hx]; exact hk); ⟨k₁, h1, .head h0 stepR_scope h2⟩⟩
  | goto l => exact hq.elim
  | ret => exact ⟨_, a₁, w₁, hq, .of_steps (.one h0 stepR_scope) harr⟩
  | panic ch => exact ⟨_, a₁, w₁, hq, .of_steps (.one h0 stepR_scope) harr⟩
  | outgrown => exact ⟨_, a₁, w₁, hq, .of_steps (.one h0 stepR_scope) harr⟩
end scope
/-- What code is run in: a table, how many slots there are, which must stay, rounds, the forms of loops' heads; what follows a return, and what follows each block. -/
structure CEnv (α : Type) where
  E : Env
  nt : Nat
  fuel : Nat
  norm : Nat → NormSpec
  ret : St → Option α
  exits : List (Nat × (St → Option α))
  fx : Nat → Bool
  pre : Nat → Option NormSpec
  gx : Nat → Nat
def firstId : Code → Option Nat
  | .region id _ _ => some id
  | .seq a b => match firstId a with
    | some i => some i
    | none => firstId b
  | .block _ c => firstId c
  | .loop c => firstId c
  | .scope c => firstId c
  | .cond _ a b => match firstId a with
    | some i => some i
    | none => firstId b
  | .rangeFunc _ _ a b => match firstId a with
    | some i => some i
    | none => firstId b
  | _ => none
def lookX {α : Type} : List (Nat × (St → Option α)) → Nat → St → Option α
  | [], _ => fun _ => none
  | e :: r, i => cond (Nat.beq i e.1) e.2 (lookX r i)
def rounds {α : Type} (body : (St → Option α) → St → Option α) : Nat → St → Option α
  | 0 => fun _ => none
  | n + 1 => body (rounds body n)
def boolOf : AVal → Option Bool
  | .d .bool b => some b
  | _ => none
/-- The slots that code writes. -/
def assigned : Code → List Nat
  | .region _ ops _ => ops.toList.filterMap (·.dst)
  | .seq a b => assigned a ++ assigned b
  | .cond _ a b => assigned a ++ assigned b
  | .block _ c => assigned c
  | .loop c => assigned c
  | .scope c => assigned c
  | _ => []
/-- How deep loops over functions stand in code, doubled. -/
def rfDepth : Code → Nat
  | .seq a b => max (rfDepth a) (rfDepth b)
  | .cond _ a b => max (rfDepth a) (rfDepth b)
  | .block _ c => rfDepth c
  | .loop c => rfDepth c
  | .scope c => rfDepth c
  | .rangeFunc _ _ a b => max (rfDepth a) (rfDepth b) + 2
  | _ => 0
/-- The slots that a round leaves alone. -/
def roundFx (ps : Array Tmp) (as body : Code) : Nat → Bool := fun t => !((ps.toList ++ assigned as ++ assigned body).elem t)
def restr (fx : Nat → Bool) (σ : St) : St := ⟨fun t => cond (fx t) (σ.tmps t) .junk, σ.objs⟩
def pcomps : (τ : DTy) → τ.den → List AVal
  | .prod a b, x => .d a x.1 :: pcomps b x.2
  | _, _ => []
def setPs : List Nat → List AVal → (Nat → AVal) → Nat → AVal
  | p :: ps, v :: vs, f => setPs ps vs (put f p v)
  | _, _, f => f
def iterOf : AVal → (Nat → AObj) → Option (Nat × (τ : DTy) × List τ.den)
  | .it id, O => match O id with
    | .iter τ l => some (id, ⟨τ, l⟩)
    | _ => none
  | _, _ => none
def itRounds {α β : Type} (one : β → (St → Option α) → St → Option α) (done : St → Option α) : List β → St → Option α
  | [] => done
  | x :: xs => one x (itRounds one done xs)
/-- What a round's code is run in. -/
def roundC {α : Type} (C : CEnv α) (fx : Nat → Bool) : CEnv α := { C with fx := fx, ret := fun σ => C.ret (restr fx σ), exits := C.exits.map fun e => (e.1, fun σ => e.2 (restr fx σ)) }
def assignC {α : Type} (C : CEnv α) (fx : Nat → Bool) : CEnv α := { C with fx := fx, ret := fun _ => none, exits := [] }
/-- The form of a state ahead of a region, if one is wanted. -/
def gate : Nat → St → Option St
  | 0, _ => none
  | _ + 1, σ => some σ
def preN (fuel : Nat) : Option NormSpec → St → Option St
  | none, σ => some σ
  | some s, σ => (norm s σ).bind (gate fuel)
/-- One round: its parameters, its code; behind it the form of the head again. -/
def oneRound {α : Type} (ea eb : (St → Option α) → St → Option α) (nrm : St → Option St) (fx : Nat → Bool) (ps : Array Tmp) (τ : DTy) (x : τ.den) (rec : St → Option α) : St → Option α :=
  fun σ => ea (eb fun σ => (nrm (restr fx σ)).bind rec) ⟨setPs ps.toList (pcomps τ x) σ.tmps, σ.objs⟩
def exec {α : Type} : Code → CEnv α → (St → Option α) → St → Option α
  | .skip, _, k => k
  | .label _, _, k => k
  | .region id ops draw, C, k => fun σ => (preN (C.fuel - C.gx id) (C.pre id) σ).bind fun σ => cond (dstOk C.nt C.fx ops) (cond draw
      (cond (lexOk ops) (execOps (opD C.E) ops (fun σ log => cond (compat ops log) (k σ) none) ops.toList σ []) none)
      (execOps (opD C.E) ops (fun σ _ => k σ) ops.toList σ [])) none
  | .seq a b, C, k => exec a C (exec b C k)
  | .cond c x y, C, k => fun σ => (boolOf (σ.eval c)).bind fun b => cond b (exec x C k σ) (exec y C k σ)
  | .block id c, C, k => exec c { C with exits := (id, k) :: C.exits } k
  | .loop c, C, k => fun σ => (firstId c).bind fun key => (norm (C.norm key) σ).bind (rounds (fun rec => exec c C (fun σ => (norm (C.norm key) σ).bind rec)) C.fuel)
  | .exit id, C, _ => lookX C.exits id
  | .scope c, C, k => exec c C k
  | .ret, C, _ => C.ret
  | .rangeFunc f ps as body, C, k => fun σ => (firstId (.seq as body)).bind fun key => (iterOf (σ.eval f) σ.objs).bind fun it => (norm (C.norm key) σ).bind fun σ1 =>
      cond (isNone (σ1.objs it.1) && Nat.beq (rfDepth as) 0 && Nat.beq (pcomps it.2.1 it.2.1.dflt).length ps.size && ps.all fun p => Nat.blt p C.nt)
        (itRounds (oneRound (exec as (assignC C (roundFx ps as body))) (exec body (roundC C (roundFx ps as body))) (norm (C.norm key)) (roundFx ps as body) ps it.2.1) k it.2.2 σ1) none
  | _, _, _ => fun _ => none
def Kont {α : Type} (C : CEnv α) (k : St → Option α) : Exit → St → Option α
  | .normal => k
  | .exit id => lookX C.exits id
  | .ret => C.ret
  | _ => fun _ => none
end Go.Proofs.Ytgmjbnglenmlpaa.Ab
end
section
/- The abstract machine: what stays over a loop over a function; marks of such loops. -/
set_option linter.unusedVariables false
set_option linter.unusedSimpArgs false
namespace Go.Proofs.Ytgmjbnglenmlpaa.Ab
open Go Go.RowKit
section
variable {π : Par} {fr fr1 : Nat → Prop} {w0 : World} {hw0 : Nat → Nat} {g g2 : G} {O O2 : Nat → AObj} {w w2 : World}
/-- A frame of one's own, from here on. -/
theorem Sim.rebase (h : Sim π fr w0 hw0 g O w) (hf : ∀ b, fr1 b → b < w.heap.size ∧ ∀ id, O id ≠ .none → ¬ g.own id b) : Sim π fr1 w g.hw g O w :=
  ⟨rfl, rfl, rfl, Nat.le_refl _, fun b hb => (hf b hb).1, fun b _ => ⟨rfl, rfl⟩, h.hwz, h.obj, fun id b hn ho => ⟨fun hb => (hf b hb).2 id hn ho, (h.own id b hn ho).2⟩, h.disj, h.ownc⟩
theorem Sim.unbase (h : Sim π fr w0 hw0 g O w) (h2 : Sim π fr1 w g.hw g2 O2 w2) (hf : ∀ b, fr b → fr1 b) : Sim π fr w0 hw0 g2 O2 w2 :=
  ⟨h2.os.trans h.os, h2.tape.trans h.tape, h2.output.trans h.output, Nat.le_trans h.size h2.size, h.frl,
    fun b hb => ⟨(h2.frame b (hf b hb)).1.trans (h.frame b hb).1, (h2.frame b (hf b hb)).2.trans (h.frame b hb).2⟩, h2.hwz, h2.obj,
    fun id b hn ho => ⟨fun hb => (h2.own id b hn ho).1 (hf b hb), (h2.own id b hn ho).2⟩, h2.disj, h2.ownc⟩
theorem noCells_of {b : Nat} {o : Obj} (h : w.heap[b]? = some o) (hc : o.isCells = false) : NoCells w b := by
  intro cs t z e
  rw [h] at e
  cases e
  cases hc
/-- What turns a loop's record, or what an iterator calls its own. -/
theorem Sim.turn (hπ : π.Ok) (h : Sim π fr w hw0 g O w) {own : Nat → Prop} {B : Nat} (ht : RF.Turn own B w w2) (ho : ∀ b, own b → (∀ id, O id ≠ .none → ¬ g.own id b) ∧ g.hw b = 0) :
    Sim π fr w2 g.hw g O w2 ∧ Adv g O w g O w2 := by
  obtain ⟨row, hg, hr⟩ := ht
  have key : ∀ id b, O id ≠ .none → g.own id b → w2.heap[b]? = w.heap[b]? := by
    intro id b hn hb
    refine hg.block b (h.own id b hn hb).2 fun e => ?_
    rcases hr b e.symm with h1 | ⟨_, o, h2, h3⟩
    · exact (ho b h1).1 id hn hb
    · exact h.ownc id b hn hb (noCells_of h2 h3)
  have hrow : ∀ b, row = some b → g.hw b = 0 := by
    intro b e
    rcases hr b e with h1 | ⟨_, o, h2, h3⟩
    · exact (ho b h1).2
    · exact h.hwz b (noCells_of h2 h3)
  have ha : Adv g O w g O w2 := by
    refine ⟨fun b => Nat.le_refl _, fun b o hlt => ?_, fun id e k hv => ⟨k, hv, Nat.le_refl _, fun _ => rfl⟩, fun id a b => ⟨a, b, rfl⟩, fun id τ l hi => ⟨hi, rfl⟩⟩
    refine World.cell?_of_block (hg.block b (h.hw_lt hlt) fun e => ?_)
    rw [hrow b e.symm] at hlt
    omega
  refine ⟨⟨rfl, rfl, rfl, Nat.le_refl _, fun b hb => Nat.lt_of_lt_of_le (h.frl b hb) hg.size, fun b hb => ⟨rfl, rfl⟩, fun b hnc => ?_, fun id => ?_, fun id b hn hb => ⟨(h.own id b hn hb).1, Nat.lt_of_lt_of_le (h.own id b hn hb).2 hg.size⟩, h.disj,
    fun id b hn hb hnc => h.ownc id b hn hb (hnc.congr (key id b hn hb))⟩, ha⟩
  · by_cases he : row = some b
    · exact hrow b he
    · by_cases hlt : b < w.heap.size
      · exact h.hwz b (hnc.congr (hg.block b hlt fun e => he e.symm))
      · exact h.hwz b (.size (by omega))
  · by_cases hn : O id = .none
    · unfold ObjOk; rw [hn]; trivial
    · exact ObjOk.keep hπ ha (h.obj id) rfl rfl rfl (fun b => Iff.rfl) fun b hb => ⟨key id b hn hb, rfl⟩
end
/-- The mark that a loop over a function leaves. -/
def markOf (D : Nat) : Deferred := { target := .collected D, args := #[] }
/-- Such marks: new, each once, their blocks as they were laid. -/
structure Marks (fr : Nat → Prop) (w : World) (Ds : List Nat) : Prop where
  once : Ds.Nodup
  new : ∀ D ∈ Ds, ¬ fr D
  laid : ∀ D ∈ Ds, w.heap[D]? = some (.deferred (some []))
theorem Marks.nil (fr : Nat → Prop) (w : World) : Marks fr w [] := ⟨List.nodup_nil, (fun _ h => by cases h), (fun _ h => by cases h)⟩
/-- The fence's own loop, if any: its record lies in the frame. -/
def FRec (F : Fence) (fr : Nat → Prop) (w0 : World) : Prop := ∀ l, F.round = some l → fr l ∧ ∃ r, w0.heap[l]? = some (.loop r)
/-- What code leaves. -/
def Post {α : Type} (π : Par) (fr : Nat → Prop) (w0 : World) (hw0 : Nat → Nat) (C : CEnv α) (k : St → Option α) (r : α) (g : G) (a : Act) (w : World) : Exit → Act → World → Prop :=
  fun e a' w' => ∃ σ' g', Sim π fr w0 hw0 g' σ'.objs w' ∧ FrR C.nt g' σ' a' w' ∧ Mono g w g' w' ∧ (∀ t, C.fx t = true → a'.tmps.getD t undef = a.tmps.getD t undef) ∧
    (∃ Ds, a'.defers = Ds.map markOf ++ a.defers ∧ Marks fr w' Ds) ∧ Kont C k e σ' = some r
section
variable {P : Program} {π : Par} {fr : Nat → Prop} {w0 : World} {hw0 : Nat → Nat} {F : Fence} {n : Nat}
theorem Post.here {α : Type} {C : CEnv α} {k : St → Option α} {r : α} {g : G} {a : Act} {w : World} {e : Exit} {σ : St} (hs : Sim π fr w0 hw0 g σ.objs w) (hr : FrR C.nt g σ a w) (h : Kont C k e σ = some r) : Post π fr w0 hw0 C k r g a w e a w :=
  ⟨σ, g, hs, hr, Mono.refl g w, fun _ _ => rfl, ⟨[], rfl, Marks.nil fr w⟩, h⟩
def withMarks (fr : Nat → Prop) (Ds : List Nat) : Nat → Prop := fun b => fr b ∨ b ∈ Ds
/-- What is known after a piece of code: what comes next may be run on a frame with its marks. -/
theorem Sim.marked {g1 : G} {O1 : Nat → AObj} {w1 : World} {Ds : List Nat} (hs : Sim π fr w0 hw0 g1 O1 w1) (hm : Marks fr w1 Ds) : Sim π (withMarks fr Ds) w1 g1.hw g1 O1 w1 := by
  refine hs.rebase fun b hb => ?_
  rcases hb with hb | hb
  · exact ⟨Nat.lt_of_lt_of_le (hs.frl b hb) hs.size, fun id hn ho => (hs.own id b hn ho).1 hb⟩
  · have := hm.laid b hb
    exact ⟨(Array.getElem?_eq_some_iff.1 this).1, fun id hn ho => hs.ownc id b hn ho (noCells_of this rfl)⟩
theorem FRec.marked {g1 : G} {O1 : Nat → AObj} {w1 : World} {Ds : List Nat} (hs : Sim π fr w0 hw0 g1 O1 w1) (h : FRec F fr w0) : FRec F (withMarks fr Ds) w1 := by
  intro l hl
  obtain ⟨h1, r, h2⟩ := h l hl
  exact ⟨.inl h1, r, (hs.frame l h1).1.trans h2⟩
theorem Post.on {α : Type} {C : CEnv α} {k : St → Option α} {r : α} {g g1 : G} {a a1 : Act} {w w1 : World} {O1 : Nat → AObj} {Ds : List Nat} (hs : Sim π fr w0 hw0 g1 O1 w1) (hm : Mono g w g1 w1)
    (ht : ∀ t, C.fx t = true → a1.tmps.getD t undef = a.tmps.getD t undef) (hd : a1.defers = Ds.map markOf ++ a.defers) (hmk : Marks fr w1 Ds) {e : Exit} {a' : Act} {w' : World}
    (h : Post π (withMarks fr Ds) w1 g1.hw C k r g1 a1 w1 e a' w') : Post π fr w0 hw0 C k r g a w e a' w' := by
  obtain ⟨σ', g', h1, h2, h3, h4, ⟨Ds', h5, h6⟩, h7⟩ := h
  refine ⟨σ', g', hs.unbase h1 (fun b hb => .inl hb), h2, hm.trans h3, fun t h => (h4 t h).trans (ht t h), ⟨Ds' ++ Ds, by rw [h5, hd]; simp, ?_, ?_, ?_⟩, h7⟩
  · exact List.nodup_append.2 ⟨h6.once, hmk.once, fun x hx y hy e => h6.new x hx (.inr (e ▸ hy))⟩
  · intro D hD
    rcases List.mem_append.1 hD with hD | hD
    · exact fun hf => h6.new D hD (.inl hf)
    · exact hmk.new D hD
  · intro D hD
    rcases List.mem_append.1 hD with hD | hD
    · exact h6.laid D hD
    · exact (h1.frame D (.inr hD)).1.trans (hmk.laid D hD)
end
end Go.Proofs.Ytgmjbnglenmlpaa.Ab
end
section
/- The abstract machine: loops over functions are sound. -/
set_option linter.unusedVariables false
set_option linter.unusedSimpArgs false
namespace Go.Proofs.Ytgmjbnglenmlpaa.Ab
open Go Go.RowKit
theorem adv_none {g g' : G} {w w' : World} (h : Mono g w g' w') (O : Nat → AObj) : Adv g (fun _ => .none) w g' O w' :=
  ⟨h.hw, h.cell, fun _ _ _ e => (by cases e), fun _ e => absurd rfl e, fun _ _ _ e => (by cases e)⟩
/-- Elements, as the iterator hands them out. -/
def ElR (g : G) (w : World) (τ : DTy) : List τ.den → List (Array Value) → Prop
  | [], [] => True
  | x :: l, v :: vs => AllR (ARel g (fun _ => .none) w) (pcomps τ x) v.toList ∧ ElR g w τ l vs
  | _, _ => False
theorem ElR.mono {g g' : G} {w w' : World} {τ : DTy} (h : Mono g w g' w') : ∀ {l : List τ.den} {vs : List (Array Value)}, ElR g w τ l vs → ElR g' w' τ l vs := by
  intro l
  induction l with
  | nil => intro vs hr; cases vs with
    | nil => trivial
    | cons _ _ => exact hr.elim
  | cons x l ih => intro vs hr; cases vs with
    | nil => exact hr.elim
    | cons v vs => exact ⟨hr.1.mono fun u v => ARel.mono (adv_none h _), ih hr.2⟩
theorem pcomps_length (τ : DTy) (x y : τ.den) : (pcomps τ x).length = (pcomps τ y).length := by
  induction τ with
  | prod a b iha ihb => unfold pcomps; simp [ihb x.2 y.2]
  | _ => rfl
theorem ElR.sizes {g : G} {w : World} {τ : DTy} : ∀ {l : List τ.den} {vs : List (Array Value)}, ElR g w τ l vs → ∀ v ∈ vs, ∃ x, v.size = (pcomps τ x).length := by
  intro l
  induction l with
  | nil => intro vs hr v hv; cases vs with
    | nil => cases hv
    | cons _ _ => exact hr.elim
  | cons x l ih => intro vs hr v hv; cases vs with
    | nil => cases hv
    | cons u vs =>
      cases hv with
      | head => exact ⟨x, by rw [hr.1.length]; simp⟩
      | tail _ hv => exact ih hr.2 v hv
/-- Cells that never turn don't; nor do blocks that are the iterator's own. -/
def KpHw (hw : Nat → Nat) (own : Nat → Prop) (A B : World) : Prop := (∀ b o, o < hw b → B.cell? ⟨b, o, none⟩ = A.cell? ⟨b, o, none⟩) ∧ ∀ b, own b → B.heap[b]? = A.heap[b]?
/-- What is owed of iterators. -/
def ItOk (P : Program) (π : Par) : Prop := ∀ {g : G} {w : World} {id : Nat} {τ : DTy} {l : List τ.den}, π.it g w id τ l →
  ∃ (gf : Nat) (lb : Array Value) (β : Type) (encs : β → Array Value) (xs : List β) (hwi : Nat → Nat), g.cur id = .func (.func gf) #[] lb ∧ (∀ args w, (callFunc gf args).run P w = .ok (.enter gf args) w) ∧ (∀ b, hwi b ≤ g.hw b) ∧
    (∀ x, (encs x).size = (pcomps τ τ.dflt).length) ∧ ElR g w τ l (xs.map encs) ∧ ∀ n, 1 ≤ n → RF.Yields Fence.wide n P gf lb (g.own id) encs (KpHw hwi (g.own id)) xs w
section
variable {P : Program} {π : Par} {g : G} {O : Nat → AObj} {w : World}
/-- A round's activation. -/
theorem setPs_rel {nt : Nat} : ∀ (ps : List Nat) (us : List AVal) (vs : List Value) (σ : St) (a : Act), us.length = ps.length → AllR (ARel g σ.objs w) us vs → (∀ p ∈ ps, p < nt) → FrR nt g σ a w →
    FrR nt g ⟨setPs ps us σ.tmps, σ.objs⟩ { tmps := (ps.zip vs).foldl (fun (t : Array Value) (q : Nat × Value) => t.setIfInBounds q.1 q.2) a.tmps, defers := [] } w := by
  intro ps
  induction ps with
  | nil =>
    intro us vs σ a hl hr hp hf
    cases us with
    | cons _ _ => cases hl
    | nil => cases vs with
      | cons _ _ => exact hr.elim
      | nil => exact ⟨hf.size, hf.tmps⟩
  | cons p ps ih =>
    intro us vs σ a hl hr hp hf
    cases us with
    | nil => cases hl
    | cons u us => cases vs with
      | nil => exact hr.elim
      | cons v vs =>
        have := hf.put (Adv.refl g σ.objs w) (d := some p) (u := u) (v := v) (fun e he => by cases he; exact hp p List.mem_cons_self) hr.1
        exact ih us vs ⟨put σ.tmps p u, σ.objs⟩ (a.put (some p) v) (by simpa using hl) hr.2 (fun q hq => hp q (List.mem_cons_of_mem _ hq)) this
theorem foldl_keep (ps : List Nat) : ∀ (vs : List Value) (t0 : Array Value) (t : Nat), ¬ t ∈ ps → ((ps.zip vs).foldl (fun (t : Array Value) (q : Nat × Value) => t.setIfInBounds q.1 q.2) t0).getD t undef = t0.getD t undef := by
  induction ps with
  | nil => intro vs t0 t _; rfl
  | cons p ps ih =>
    intro vs t0 t ht
    cases vs with
    | nil => rfl
    | cons v vs =>
      show ((ps.zip vs).foldl _ (t0.setIfInBounds p v)).getD t undef = _
      rw [ih vs _ t (fun h => ht (List.mem_cons_of_mem _ h))]
      simp only [Array.getD_eq_getD_getElem?]
      rw [Array.getElem?_setIfInBounds_ne (fun hh : p = t => ht (by subst hh; exact List.mem_cons_self))]
/-- The slots that a round leaves alone, of a state behind the round. -/
theorem restr_rel {nt : Nat} {fx : Nat → Bool} {σ : St} {a a' : Act} (h : FrR nt g σ a' w) (hs : a.tmps.size = nt) (hk : ∀ t, fx t = true → a'.tmps.getD t undef = a.tmps.getD t undef) : FrR nt g (restr fx σ) a w := by
  refine ⟨hs, fun t => ?_⟩
  unfold restr
  dsimp only
  cases hf : fx t with
  | false => exact .junk
  | true => rw [← hk t hf]; exact h.tmps t
end
section
variable {P : Program} {π : Par} {fr : Nat → Prop} {w0 : World} {hw0 : Nat → Nat}
/-- Between rounds: the world, what is known. -/
structure Btw (π : Par) (fr : Nat → Prop) (w0 : World) (hw0 : Nat → Nat) (own : Nat → Prop) (nt : Nat) (g0 : G) (a : Act) (w : World) (σ : St) (g : G) (W : World) : Prop where
  sim : Sim π fr w0 hw0 g σ.objs W
  frr : FrR nt g σ a W
  mono : Mono g0 w g W
  size : w.heap.size ≤ W.heap.size
  own : ∀ b, own b → (∀ id, σ.objs id ≠ .none → ¬ g.own id b) ∧ g.hw b = 0 ∧ ¬ fr b
theorem Btw.turn (hπ : π.Ok) {own : Nat → Prop} {nt : Nat} {g0 : G} {a : Act} {w : World} {σ : St} {g : G} {A B : World} (hlt : w0.heap.size ≤ w.heap.size) (h : Btw π fr w0 hw0 own nt g0 a w σ g A) (ht : RF.Turn own w.heap.size A B) :
    Btw π fr w0 hw0 own nt g0 a w σ g B := by
  have hs := h.sim.rebase (fr1 := fr) (fun b hb => ⟨Nat.lt_of_lt_of_le (h.sim.frl b hb) h.sim.size, fun id hn ho => (h.sim.own id b hn ho).1 hb⟩)
  obtain ⟨s1, a1⟩ := hs.turn hπ ht (fun b hb => ⟨(h.own b hb).1, (h.own b hb).2.1⟩)
  obtain ⟨row, hg, hr⟩ := ht
  refine ⟨⟨hg.os.trans h.sim.os, hg.tape.trans h.sim.tape, hg.output.trans h.sim.output, Nat.le_trans h.sim.size hg.size, h.sim.frl, fun b hb => ⟨(hg.block b (hs.frl b hb) fun e => ?_).trans (h.sim.frame b hb).1, (h.sim.frame b hb).2⟩, s1.hwz, s1.obj, s1.own, s1.disj, s1.ownc⟩,
    ⟨h.frr.size, fun t => (h.frr.tmps t).mono a1⟩, h.mono.trans a1.toMono, Nat.le_trans h.size hg.size, h.own⟩
  rcases hr b e.symm with h1 | ⟨h1, _⟩
  · exact (h.own b h1).2.2 hb
  · have := h.sim.frl b hb
    omega
/-- All that is there and that no object owns. -/
def frAll (g : G) (O : Nat → AObj) (W : World) : Nat → Prop := fun b => b < W.heap.size ∧ ∀ id, O id ≠ .none → ¬ g.own id b
theorem Btw.frs {own : Nat → Prop} {nt : Nat} {g0 : G} {a : Act} {w : World} {σ : St} {g : G} {W : World} (h : Btw π fr w0 hw0 own nt g0 a w σ g W) : ∀ b, fr b → frAll g σ.objs W b :=
  fun b hb => ⟨Nat.lt_of_lt_of_le (h.sim.frl b hb) h.sim.size, fun id hn ho => (h.sim.own id b hn ho).1 hb⟩
theorem Btw.frx {own : Nat → Prop} {nt : Nat} {g0 : G} {a : Act} {w : World} {σ : St} {g : G} {W : World} (h : Btw π fr w0 hw0 own nt g0 a w σ g W) {b : Nat} {o : Obj} (ho : W.heap[b]? = some o) (hc : o.isCells = false) : frAll g σ.objs W b :=
  ⟨(Array.getElem?_eq_some_iff.1 ho).1, fun id hn hw => h.sim.ownc id b hn hw (noCells_of ho hc)⟩
/-- A piece of code was run. -/
theorem Btw.run {own : Nat → Prop} {nt : Nat} {g0 : G} {a a3 : Act} {w : World} {σ σ3 : St} {g g3 : G} {W w3 : World} (hown : ∀ b, own b → b < w.heap.size) (h : Btw π fr w0 hw0 own nt g0 a w σ g W)
    (s3 : Sim π (frAll g σ.objs W) W g.hw g3 σ3.objs w3) (r3 : FrR nt g3 σ3 a3 w3) (m3 : Mono g W g3 w3) : Btw π fr w0 hw0 own nt g0 a3 w σ3 g3 w3 := by
  refine ⟨h.sim.unbase s3 h.frs, r3, h.mono.trans m3, Nat.le_trans h.size s3.size, fun b hb => ?_⟩
  have hf : frAll g σ.objs W b := ⟨Nat.lt_of_lt_of_le (hown b hb) h.size, (h.own b hb).1⟩
  exact ⟨fun id hn ho => (s3.own id b hn ho).1 hf, (s3.frame b hf).2.trans (h.own b hb).2.1, (h.own b hb).2.2⟩
theorem Btw.base {own : Nat → Prop} {nt : Nat} {g0 : G} {a : Act} {w : World} {σ : St} {g : G} {W : World} (h : Btw π fr w0 hw0 own nt g0 a w σ g W) : Sim π (frAll g σ.objs W) W g.hw g σ.objs W := h.sim.rebase fun _ hb => hb
theorem Btw.keeps {own : Nat → Prop} {nt : Nat} {g0 : G} {a : Act} {w : World} {σ : St} {g g3 : G} {W w3 : World} {O3 : Nat → AObj} (B : Nat) (h : Btw π fr w0 hw0 own nt g0 a w σ g W) (s3 : Sim π (frAll g σ.objs W) W g.hw g3 O3 w3) : KeepsFrom B W w3 :=
  ⟨s3.size, fun k o _ hk hc => (s3.frame k (h.frx hk hc)).1.trans hk⟩
theorem Btw.keepOwn {own : Nat → Prop} {nt : Nat} {g0 : G} {a : Act} {w : World} {σ : St} {g g3 : G} {W w3 : World} {O3 : Nat → AObj} (hown : ∀ b, own b → b < w.heap.size) (h : Btw π fr w0 hw0 own nt g0 a w σ g W) (s3 : Sim π (frAll g σ.objs W) W g.hw g3 O3 w3) :
    ∀ b, own b → w3.heap[b]? = W.heap[b]? := fun b hb => (s3.frame b ⟨Nat.lt_of_lt_of_le (hown b hb) h.size, (h.own b hb).1⟩).1
theorem zip_foldl (ps : Array Nat) (v : Array Value) (t0 : Array Value) : (ps.zip v).foldl (fun (t : Array Value) (q : Nat × Value) => t.setIfInBounds q.1 q.2) t0 = (ps.toList.zip v.toList).foldl (fun (t : Array Value) (q : Nat × Value) => t.setIfInBounds q.1 q.2) t0 := by
  rw [← Array.foldl_toList, Array.toList_zip]
end
end Go.Proofs.Ytgmjbnglenmlpaa.Ab
end
section
/- The abstract machine: code does what it says. -/
set_option linter.unusedVariables false
set_option linter.unusedSimpArgs false
namespace Go.Proofs.Ytgmjbnglenmlpaa.Ab
open Go Go.RowKit
def SoundC (P : Program) (π : Par) (α : Type) (c : Code) : Prop := ∀ (C : CEnv α) (hE : EnvOk P C.E π) (k : St → Option α) (r : α) (σ : St), exec c C k σ = some r →
  ∀ (F : Fence) (n : Nat) (fr : Nat → Prop) (w0 : World) (hw0 : Nat → Nat), WideF F → rfDepth c ≤ n → (rfDepth c = 0 ∨ FRec F fr w0) →
  ∀ (g : G) (a : Act) (w : World), Sim π fr w0 hw0 g σ.objs w → FrR C.nt g σ a w → c.wpIn F n P (Post π fr w0 hw0 C k r g a w) a w
theorem lookX_map {α : Type} (m : St → St) : ∀ (l : List (Nat × (St → Option α))) (i : Nat) (σ : St), lookX (l.map fun e => (e.1, fun σ => e.2 (m σ))) i σ = lookX l i (m σ) := by
  intro l
  induction l with
  | nil => intro i σ; rfl
  | cons e l ih =>
    intro i σ
    show cond (Nat.beq i e.1) (fun σ => e.2 (m σ)) (lookX (l.map fun e => (e.1, fun σ => e.2 (m σ))) i) σ = cond (Nat.beq i e.1) e.2 (lookX l i) (m σ)
    cases Nat.beq i e.1 with
    | true => rfl
    | false => exact ih i σ
theorem roundFx_spec {ps : Array Tmp} {as body : Code} {t : Nat} (h : roundFx ps as body t = true) : ¬ t ∈ ps.toList := by
  unfold roundFx at h
  simp only [Bool.not_eq_true', List.elem_eq_contains, List.contains_eq_mem, decide_eq_false_iff_not] at h
  exact fun hp => h (by simp; exact .inl (by simpa using hp))
section
variable {P : Program} {π : Par} {α : Type}
theorem range_sound (hI : ItOk P π) {f : Operand} {ps : Array Tmp} {as body : Code} (iha : SoundC P π α as) (ihb : SoundC P π α body) : SoundC P π α (.rangeFunc f ps as body) := by
  intro C hE k r σ h F n fr w0 hw0 hW hn hF g a w hs hr
  unfold exec at h
  obtain ⟨key, hkey, h⟩ := bind_some h
  obtain ⟨it, hit, h⟩ := bind_some h
  obtain ⟨σ1, hn1, h⟩ := bind_some h
  cases hck : (isNone (σ1.objs it.1) && Nat.beq (rfDepth as) 0 && Nat.beq (pcomps it.2.1 it.2.1.dflt).length ps.size && ps.all fun p => Nat.blt p C.nt) with
  | false => rw [hck] at h; cases h
  | true =>
  rw [hck] at h
  replace h : itRounds (oneRound (exec as (assignC C (roundFx ps as body))) (exec body (roundC C (roundFx ps as body))) (norm (C.norm key)) (roundFx ps as body) ps it.2.1) k it.2.2 σ1 = some r := h
  simp only [Bool.and_eq_true] at hck
  obtain ⟨⟨⟨hno, hda⟩, hlen⟩, hpsn⟩ := hck
  have hda := Nat.eq_of_beq_eq_true hda
  have hlen := Nat.eq_of_beq_eq_true hlen
  have hpsn : ∀ p ∈ ps.toList, p < C.nt := by
    intro p hp
    have := Array.all_eq_true_iff_forall_mem.1 hpsn p (by simpa using hp)
    simpa using this
  obtain ⟨id, τ, l⟩ := it
  have hfi : σ.eval f = .it id ∧ σ.objs id = .iter τ l := by
    unfold iterOf at hit
    split at hit
    · rename_i id' he
      split at hit
      · rename_i τ' l' ho
        cases hit
        exact ⟨he, ho⟩
      · cases hit
    · cases hit
  obtain ⟨hf, hO⟩ := hfi
  dsimp only at h hno hlen
  have hno : σ1.objs id = .none := by
    cases hx : σ1.objs id with
    | none => rfl
    | _ => rw [hx] at hno; cases hno
  have hob := hs.obj id
  unfold ObjOk at hob
  rw [hO] at hob
  obtain ⟨hown0, hπit⟩ := hob
  obtain ⟨gf, lb, β, encs, xs, hwi, hcur, hent, hwile, hsz, hel, hy⟩ := hI hπit
  have hev : a.eval f = .func (.func gf) #[] lb := by
    have := hr.eval f
    rw [hf] at this
    rw [← hcur]
    generalize a.eval f = v at this
    cases this with
    | it _ => rfl
  obtain ⟨g1, s1, r1, e1, own1⟩ := norm_sound hE.par hn1 hs hr
  have hnid : σ.objs id ≠ .none := by rw [hO]; simp
  have hlt0 : w0.heap.size ≤ w.heap.size := hs.size
  have hownlt : ∀ b, g.own id b → b < w.heap.size := fun b hb => (hs.own id b hnid hb).2
  have b1 : Btw π fr w0 hw0 (g.own id) C.nt g a w σ1 g1 w := by
    refine ⟨s1, r1, ⟨fun b => by rw [e1]; exact Nat.le_refl _, fun _ _ _ => rfl⟩, Nat.le_refl _, fun b hb => ⟨fun i hi hb' => ?_, by rw [e1]; exact hown0 b hb, (hs.own id b hnid hb).1⟩⟩
    obtain ⟨o, o1, o2, o3⟩ := own1 i b hi hb'
    have := hs.disj id o b hnid o1 hb o2
    subst this
    exact o3 τ l hO hno
  generalize hfx : roundFx ps as body = fx at h
  have hfxp : ∀ t, fx t = true → ¬ t ∈ ps.toList := fun t ht => by rw [← hfx] at ht; exact roundFx_spec ht
  -- what is known between rounds, ends of rounds
  generalize hone : oneRound (exec as (assignC C fx)) (exec body (roundC C fx)) (norm (C.norm key)) fx ps τ = one at h
  let I : List β → World → Prop := fun pre W => ∃ σ2 g2 restl rest, xs = pre ++ rest ∧ ElR g2 W τ restl (rest.map encs) ∧ Btw π fr w0 hw0 (g.own id) C.nt g a w σ2 g2 W ∧ itRounds one k restl σ2 = some r
  let Ix : Code → List β → World → Prop := fun c pre W => ∃ σ2 g2 e, Btw π fr w0 hw0 (g.own id) C.nt g a w σ2 g2 W ∧ (c = .ret ∧ e = Exit.ret ∨ ∃ i, c = .exit i ∧ e = Exit.exit i) ∧ Kont C k e σ2 = some r
  have hIt : ∀ s A B, RF.Turn (g.own id) w.heap.size A B → I s A → I s B := by
    rintro s A B ht ⟨σ2, g2, restl, rest, h1, h2, h3, h4⟩
    have h5 := h3.turn hE.par hlt0 ht
    refine ⟨σ2, g2, restl, rest, h1, h2.mono ⟨fun b => Nat.le_refl _, fun b o hb => ?_⟩, h5, h4⟩
    have hs3 := h3.sim.rebase (fr1 := fr) (fun b hb => ⟨Nat.lt_of_lt_of_le (h3.sim.frl b hb) h3.sim.size, fun id hn ho => (h3.sim.own id b hn ho).1 hb⟩)
    exact (hs3.turn hE.par ht (fun b hb => ⟨(h3.own b hb).1, (h3.own b hb).2.1⟩)).2.cell b o hb
  have hIxt : ∀ c s A B, RF.Turn (g.own id) w.heap.size A B → Ix c s A → Ix c s B := by
    rintro c s A B ht ⟨σ2, g2, e, h1, h2, h3⟩
    exact ⟨σ2, g2, e, h1.turn hE.par hlt0 ht, h2, h3⟩
  have hI0 : I [] w := ⟨σ1, g1, l, xs, rfl, hel.mono b1.mono, b1, h⟩
  have hn2 : rfDepth body + 2 ≤ n := by have : max (rfDepth as) (rfDepth body) + 2 ≤ n := hn; omega
  have hKt : ∀ {A B C : World}, KpHw hwi (g.own id) A B → KpHw hwi (g.own id) B C → KpHw hwi (g.own id) A C := fun h1 h2 => ⟨fun b o ho => (h2.1 b o ho).trans (h1.1 b o ho), fun b hb => (h2.2 b hb).trans (h1.2 b hb)⟩
  have hKb : ∀ (W : World) (l : Nat) (o : Obj), w.heap.size ≤ l → KpHw hwi (g.own id) W (W.putObj l o) := by
    intro W l o hl
    have key : ∀ b, b < w.heap.size → (W.putObj l o).heap[b]? = W.heap[b]? := by
      intro b hb
      simp only [World.putObj]
      rw [Array.getElem?_setIfInBounds_ne (by omega)]
    exact ⟨fun b j hj => World.cell?_of_block (key b (hs.hw_lt (Nat.lt_of_lt_of_le hj (hwile b)))), fun b hb => key b (hownlt b hb)⟩
  have hps : ∀ x, (encs x).size = ps.size := fun x => (hsz x).trans hlen
  have hround : ∀ (lp : Nat) (pre : List β) (x : β) (W : World), pre ++ [x] <+: xs → w.heap.size ≤ lp → I pre W →
      as.wpIn (F.inRound lp) (n - 1 - 1) P (Exit.then (fun a' W' => KeepsFrom w.heap.size W W' ∧ KpHw hwi (g.own id) W W' ∧ ∀ Wb, RF.Turn (g.own id) w.heap.size W' Wb → (∃ r, Wb.heap[lp]? = some (.loop r)) →
        body.wpIn (F.inRound lp) (n - 1 - 1) P (RF.After w.heap.size (KpHw hwi (g.own id)) I Ix (pre ++ [x]) Wb) a' Wb) (fun _ _ _ => False))
        { tmps := (ps.zip (encs x)).foldl (fun t (p, v) => t.setIfInBounds p v) a.tmps, defers := [] } W := by
    rintro lp pre x W hpx hlp ⟨σ2, g2, restl, rest, hxs, hel2, hb2, hit2⟩
    obtain ⟨rest', hrest⟩ := hpx
    have hre : rest = x :: rest' := by
      rw [hxs, List.append_assoc] at hrest
      exact (List.append_cancel_left hrest).symm
    subst hre
    cases restl with
    | nil => exact hel2.elim
    | cons y restl =>
    obtain ⟨hel3, hel4⟩ := hel2
    have hit3 : one y (itRounds one k restl) σ2 = some r := hit2
    have hW' : WideF (F.inRound lp) := by rcases hW with rfl | ⟨l0, rfl⟩ <;> exact .inr ⟨lp, rfl⟩
    have hW2 : ∀ {g3 : G} {O3 : Nat → AObj} {w3 : World}, Sim π (frAll g2 σ2.objs W) W g2.hw g3 O3 w3 → Mono g2 W g3 w3 → KpHw hwi (g.own id) W w3 := fun s m => ⟨fun b o ho => m.cell b o (Nat.lt_of_lt_of_le ho (Nat.le_trans (hwile b) (hb2.mono.hw b))), hb2.keepOwn hownlt s⟩
    have hfr := setPs_rel (nt := C.nt) ps.toList (pcomps τ y) (encs x).toList σ2 a (by rw [pcomps_length τ y τ.dflt, hlen]; simp) (AllR.mono (fun u v => ARel.mono (adv_none (Mono.refl g2 W) _)) hel3) hpsn hb2.frr
    rw [← zip_foldl] at hfr
    generalize hact : ({ tmps := (ps.zip (encs x)).foldl (fun (t : Array Value) (q : Nat × Value) => t.setIfInBounds q.1 q.2) a.tmps, defers := [] } : Act) = actR at hfr
    have hkeep0 : ∀ t, fx t = true → actR.tmps.getD t undef = a.tmps.getD t undef := by
      intro t ht
      rw [← hact]
      dsimp only
      rw [zip_foldl]
      exact foldl_keep _ _ _ t (hfxp t ht)
    have hit4 : exec as (assignC C fx) (exec body (roundC C fx) (fun σ => (norm (C.norm key) (restr fx σ)).bind (itRounds one k restl))) ⟨setPs ps.toList (pcomps τ y) σ2.tmps, σ2.objs⟩ = some r := by
      rw [← hone]
      rw [← hone] at hit3
      exact hit3
    refine wpIn_mono (iha (assignC C fx) hE _ r _ hit4 (F.inRound lp) (n - 1 - 1) (frAll g2 σ2.objs W) W g2.hw hW' (by omega) (.inl hda) g2 actR W hb2.base hfr) ?_
    rintro e a3 w3 ⟨σ3, g3, s3, r3, m3, t3, _, h3⟩
    cases e with
    | normal =>
      refine ⟨hb2.keeps _ s3, hW2 s3 m3, fun Wb ht hlr => ?_⟩
      have hb3 := hb2.run hownlt s3 r3 m3
      have hb4 := hb3.turn hE.par hlt0 ht
      have hrec : FRec (F.inRound lp) (frAll g3 σ3.objs Wb) Wb := by
        intro l0 hl0
        have hl0 : some lp = some l0 := hl0
        cases hl0
        obtain ⟨rr, hrr⟩ := hlr
        exact ⟨hb4.frx hrr rfl, rr, hrr⟩
      refine wpIn_mono (ihb (roundC C fx) hE _ r _ h3 (F.inRound lp) (n - 1 - 1) (frAll g3 σ3.objs Wb) Wb g3.hw hW' (by omega) (.inr hrec) g3 a3 Wb hb4.base hb4.frr) ?_
      rintro e a5 w5 ⟨σ5, g5, s5, r5, m5, t5, _, h5⟩
      have hb5 := hb4.run hownlt s5 r5 m5
      have hk5 : ∀ t, fx t = true → a5.tmps.getD t undef = a.tmps.getD t undef := fun t ht => (t5 t ht).trans ((t3 t ht).trans (hkeep0 t ht))
      have hfr5 : FrR C.nt g5 (restr fx σ5) a w5 := restr_rel r5 hr.size hk5
      have hKB := hb4.keeps w.heap.size s5
      have hb5' : Btw π fr w0 hw0 (g.own id) C.nt g a w (restr fx σ5) g5 w5 := ⟨hb5.sim, hfr5, hb5.mono, hb5.size, hb5.own⟩
      cases e with
      | normal =>
        obtain ⟨σ6, hn6, h6⟩ := bind_some (show (norm (C.norm key) (restr fx σ5)).bind (itRounds one k restl) = some r from h5)
        obtain ⟨g6, s6, r6, e6, own6⟩ := norm_sound hE.par hn6 hb5'.sim hfr5
        have hm6 : Mono g5 w5 g6 w5 := ⟨fun b => by rw [e6]; exact Nat.le_refl _, fun _ _ _ => rfl⟩
        refine ⟨hKB, ⟨fun b o ho => m5.cell b o (Nat.lt_of_lt_of_le ho (Nat.le_trans (hwile b) (hb4.mono.hw b))), hb4.keepOwn hownlt s5⟩, σ6, g6, restl, rest', by rw [← hrest], hel4.mono ?_, ⟨s6, r6, hb5'.mono.trans hm6, hb5'.size, fun b hb => ⟨fun i hi hb' => ?_, by rw [e6]; exact (hb5'.own b hb).2.1, (hb5'.own b hb).2.2⟩⟩, h6⟩
        · have hsb := hb3.sim.rebase (fr1 := fr) (fun b hb => ⟨Nat.lt_of_lt_of_le (hb3.sim.frl b hb) hb3.sim.size, fun id hn ho => (hb3.sim.own id b hn ho).1 hb⟩)
          exact (m3.trans ((hsb.turn hE.par ht (fun b hb => ⟨(hb3.own b hb).1, (hb3.own b hb).2.1⟩)).2.toMono.trans m5)).trans hm6
        · obtain ⟨o, o1, o2, _⟩ := own6 i b hi hb'
          exact (hb5'.own b hb).1 o o1 o2
      | ret => exact ⟨hKB, restr fx σ5, g5, .ret, hb5', .inl ⟨rfl, rfl⟩, h5⟩
      | exit i => exact ⟨hKB, restr fx σ5, g5, .exit i, hb5', .inr ⟨i, rfl, rfl⟩, (lookX_map (restr fx) C.exits i σ5).symm.trans h5⟩
      | _ => cases h5
    | _ => cases h3
  have hdone : ∀ (Ds : List Nat) (W : World), (∀ D ∈ Ds, w.heap.size ≤ D ∧ W.heap[D]? = some (.deferred (some []))) → Ds.Nodup → I xs W → Post π fr w0 hw0 C k r g a w .normal { a with defers := Ds.map markOf ++ a.defers } W := by
    rintro Ds W hD hnd ⟨σ2, g2, restl, rest, hxs, hel2, hb2, hit2⟩
    have : rest = [] := by
      have := congrArg List.length hxs
      simp at this
      exact this
    subst this
    cases restl with
    | cons y restl => exact hel2.elim
    | nil =>
      exact ⟨σ2, g2, hb2.sim, ⟨hb2.frr.size, hb2.frr.tmps⟩, hb2.mono, fun _ _ => rfl, ⟨Ds, rfl, hnd, fun D h hf => by have := hs.frl D hf; have := (hD D h).1; omega, fun D h => (hD D h).2⟩, hit2⟩
  have hstop : ∀ (Ds : List Nat) (c : Code) (pre : List β) (W : World), (∀ D ∈ Ds, w.heap.size ≤ D ∧ W.heap[D]? = some (.deferred (some []))) → Ds.Nodup → Ix c pre W → c.wpIn F n P (Post π fr w0 hw0 C k r g a w) { a with defers := Ds.map markOf ++ a.defers } W := by
    rintro Ds c pre W hD hnd ⟨σ2, g2, e, hb2, hce, hk⟩
    have hp : Post π fr w0 hw0 C k r g a w e { a with defers := Ds.map markOf ++ a.defers } W :=
      ⟨σ2, g2, hb2.sim, ⟨hb2.frr.size, hb2.frr.tmps⟩, hb2.mono, fun _ _ => rfl, ⟨Ds, rfl, hnd, fun D h hf => by have := hs.frl D hf; have := (hD D h).1; omega, fun D h => (hD D h).2⟩, hk⟩
    rcases hce with ⟨rfl, rfl⟩ | ⟨i, rfl, rfl⟩
    · exact wpIn_ret hp
    · exact wpIn_exit hp
  have h1n : 1 ≤ n := by omega
  rcases hW with rfl | ⟨l0, rfl⟩
  · refine RF.range_own rfl h1n hev trivial hent (hy (n - 1) (by omega)) hownlt hKt hKb (Below.refl _ w) hps I Ix hIt hIxt hI0 hround (fun D W hD hI' hh => ?_) (fun D c pre W hD _ hx hh => ?_)
    · exact hdone [D] W (fun D' h => by simp at h; subst h; exact ⟨hD, hh⟩) (by simp) hI'
    · exact hstop [D] c pre W (fun D' h => by simp at h; subst h; exact ⟨hD, hh⟩) (by simp) hx
  · rcases hF with hF | hF
    · unfold rfDepth at hF; omega
    · obtain ⟨hl1, rr, hl2⟩ := hF l0 rfl
      refine RF.range_own_in rfl ((hs.frame l0 hl1).1.trans hl2) h1n hev trivial hent (hy (n - 1) (by omega)) hownlt hKt hKb (Below.refl _ w) hps I Ix hIt hIxt hI0 hround (fun W hI' => ?_) (fun c pre W _ hx => ?_)
      · exact hdone [] W (fun D' h => by cases h) (by simp) hI'
      · exact hstop [] c pre W (fun D' h => by cases h) (by simp) hx
end
end Go.Proofs.Ytgmjbnglenmlpaa.Ab
end
section
/- The abstract machine: code does what it says, all of it. -/
set_option linter.unusedVariables false
set_option linter.unusedSimpArgs false
namespace Go.Proofs.Ytgmjbnglenmlpaa.Ab
open Go Go.RowKit
section
variable {P : Program} {π : Par} {α : Type}
theorem exec_sound (hI : ItOk P π) (hm : P.follows .mixedOrders = true) (c : Code) : SoundC P π α c := by
  induction c with
  | skip => intro C hE k r σ h F n fr w0 hw0 hW hn hF g a w hs hr; exact wpIn_skip (Post.here hs hr h)
  | label l => intro C hE k r σ h F n fr w0 hw0 hW hn hF g a w hs hr; exact wpIn_label (Post.here hs hr h)
  | region id ops draw =>
    intro C hE k r σ0 h F n fr w0 hw0 hW hn hF g0 a w hs0 hr0
    unfold exec at h
    obtain ⟨σ, hpre, h⟩ := bind_some h
    obtain ⟨g, hs, hr, hm0⟩ : ∃ g, Sim π fr w0 hw0 g σ.objs w ∧ FrR C.nt g σ a w ∧ Mono g0 w g w := by
      cases hp : C.pre id with
      | none => rw [hp] at hpre; cases hpre; exact ⟨g0, hs0, hr0, Mono.refl g0 w⟩
      | some s =>
        rw [hp] at hpre
        obtain ⟨σ1, hnm, hg⟩ := bind_some (show (norm s σ0).bind (gate (C.fuel - C.gx id)) = some σ from hpre)
        have hσ : σ1 = σ := by
          generalize C.fuel - C.gx id = m at hg
          cases m with
          | zero => cases hg
          | succ m => cases hg; rfl
        subst hσ
        obtain ⟨g, s1, r1, e1, _⟩ := norm_sound hE.par hnm hs0 hr0
        exact ⟨g, s1, r1, ⟨fun b => by rw [e1]; exact Nat.le_refl _, fun _ _ _ => rfl⟩⟩
    have fin : ∀ {σ' : St}, k σ' = some r → Next1 π fr w0 hw0 C.nt C.fx g a w σ' (Post π fr w0 hw0 C k r g0 a w .normal) := by
      intro σ' hk g' a' w' h1 h2 h3 h4
      exact ⟨σ', g', h1, h2, hm0.trans h3, h4.tmps, ⟨[], h4.defers, Marks.nil fr w'⟩, hk⟩
    cases hd : dstOk C.nt C.fx ops with
    | false => rw [hd] at h; cases h
    | true =>
      rw [hd] at h
      cases draw with
      | false => exact region_sound hE hW hd h id hs hr _ fun σ' log hk => fin hk
      | true =>
        dsimp only [cond] at h
        cases hl : lexOk ops with
        | false => rw [hl] at h; cases h
        | true =>
          rw [hl] at h
          exact region_draw_sound hE hW hm hd hl h id hs hr _ fun σ' hk => fin hk
  | seq x y ihx ihy =>
    intro C hE k r σ h F n fr w0 hw0 hW hn hF g a w hs hr
    unfold exec at h
    have hn : max (rfDepth x) (rfDepth y) ≤ n := hn
    have hF : max (rfDepth x) (rfDepth y) = 0 ∨ FRec F fr w0 := hF
    refine wpIn_seq (wpIn_mono (ihx C hE _ r σ h F n fr w0 hw0 hW (by omega) (hF.imp (by omega) id) g a w hs hr) ?_)
    rintro e a1 w1 ⟨σ1, g1, h1, h2, h3, h4, ⟨Ds, h5, h6⟩, h7⟩
    cases e with
    | normal =>
      have hF1 : rfDepth y = 0 ∨ FRec F (withMarks fr Ds) w1 := hF.imp (by omega) (fun h => h.marked h1)
      exact wpIn_mono (ihy C hE k r σ1 h7 F n (withMarks fr Ds) w1 g1.hw hW (by omega) hF1 g1 a1 w1 (h1.marked h6) h2) fun e a2 w2 hp => Post.on h1 h3 h4 h5 h6 hp
    | exit id => exact ⟨σ1, g1, h1, h2, h3, h4, ⟨Ds, h5, h6⟩, h7⟩
    | ret => exact ⟨σ1, g1, h1, h2, h3, h4, ⟨Ds, h5, h6⟩, h7⟩
    | _ => cases h7
  | cond c x y ihx ihy =>
    intro C hE k r σ h F n fr w0 hw0 hW hn hF g a w hs hr
    unfold exec at h
    have hn : max (rfDepth x) (rfDepth y) ≤ n := hn
    have hF : max (rfDepth x) (rfDepth y) = 0 ∨ FRec F fr w0 := hF
    obtain ⟨b, hb, h⟩ := bind_some h
    have hv : a.eval c = .bool b := by
      have := hr.eval c
      unfold boolOf at hb
      split at hb
      · rename_i b' he
        rw [he] at this
        cases hb
        exact arel_bool this
      · cases hb
    refine wpIn_cond hv ?_
    cases b with
    | true => exact ihx C hE k r σ h F n fr w0 hw0 hW (by omega) (hF.imp (by omega) id) g a w hs hr
    | false => exact ihy C hE k r σ h F n fr w0 hw0 hW (by omega) (hF.imp (by omega) id) g a w hs hr
  | block id c ih =>
    intro C hE k r σ h F n fr w0 hw0 hW hn hF g a w hs hr
    unfold exec at h
    refine wpIn_block (wpIn_mono (ih { C with exits := (id, k) :: C.exits } hE k r σ h F n fr w0 hw0 hW hn hF g a w hs hr) ?_)
    rintro e a1 w1 ⟨σ1, g1, h1, h2, h3, h4, h5, h7⟩
    cases e with
    | normal => exact ⟨σ1, g1, h1, h2, h3, h4, h5, h7⟩
    | exit id' =>
      show (if id' = id then Post π fr w0 hw0 C k r g a w .normal a1 w1 else Post π fr w0 hw0 C k r g a w (.exit id') a1 w1)
      by_cases hid : id' = id
      · subst hid
        rw [if_pos rfl]
        refine ⟨σ1, g1, h1, h2, h3, h4, h5, ?_⟩
        have h7 : lookX ((id', k) :: C.exits) id' σ1 = some r := h7
        unfold lookX at h7
        show k σ1 = some r
        simpa using h7
      · rw [if_neg hid]
        refine ⟨σ1, g1, h1, h2, h3, h4, h5, ?_⟩
        have h7 : lookX ((id, k) :: C.exits) id' σ1 = some r := h7
        unfold lookX at h7
        have hb : Nat.beq id' id = false := by
          cases hb : Nat.beq id' id with
          | false => rfl
          | true => exact absurd (Nat.eq_of_beq_eq_true hb) hid
        rw [hb] at h7
        exact h7
    | ret => exact ⟨σ1, g1, h1, h2, h3, h4, h5, h7⟩
    | _ => cases h7
  | loop c ih =>
    intro C hE k r σ h F n fr w0 hw0 hW hn hF g a w hs hr
    unfold exec at h
    obtain ⟨key, hkey, h⟩ := bind_some h
    obtain ⟨σ1, hn1, h⟩ := bind_some h
    obtain ⟨g1, s1, r1, e1, _⟩ := norm_sound hE.par hn1 hs hr
    refine wpIn_loop_ghost (fun m a' w' => ∃ σ' g', Sim π fr w0 hw0 g' σ'.objs w' ∧ FrR C.nt g' σ' a' w' ∧ Mono g w g' w' ∧ (∀ t, C.fx t = true → a'.tmps.getD t undef = a.tmps.getD t undef) ∧ (∃ Ds, a'.defers = Ds.map markOf ++ a.defers ∧ Marks fr w' Ds) ∧
        rounds (fun rec => exec c C (fun σ => (norm (C.norm key) σ).bind rec)) m σ' = some r) C.fuel
      ⟨σ1, g1, s1, r1, ⟨fun b => by rw [e1]; exact Nat.le_refl _, fun _ _ _ => rfl⟩, fun _ _ => rfl, ⟨[], rfl, Marks.nil fr w⟩, h⟩ ?_
    rintro m a2 w2 ⟨σ2, g2, s2, r2, m2, t2, ⟨Ds, d2, k2⟩, h2⟩
    cases m with
    | zero => cases h2
    | succ m =>
      unfold rounds at h2
      have hF1 : rfDepth c = 0 ∨ FRec F (withMarks fr Ds) w2 := hF.imp (fun h => h) (fun h => h.marked s2)
      refine wpIn_mono (ih C hE _ r σ2 h2 F n (withMarks fr Ds) w2 g2.hw hW hn hF1 g2 a2 w2 (s2.marked k2) r2) ?_
      intro e a3 w3 hp
      obtain ⟨σ3, g3, s3, r3, m3, t3, d3, h3⟩ := Post.on s2 m2 t2 d2 k2 hp
      cases e with
      | normal =>
        obtain ⟨σ4, hn4, h4⟩ := bind_some h3
        obtain ⟨g4, s4, r4, e4, _⟩ := norm_sound hE.par hn4 s3 r3
        exact ⟨m, Nat.lt_succ_self m, σ4, g4, s4, r4, m3.trans ⟨fun b => by rw [e4]; exact Nat.le_refl _, fun _ _ _ => rfl⟩, t3, d3, h4⟩
      | exit id => exact ⟨σ3, g3, s3, r3, m3, t3, d3, h3⟩
      | ret => exact ⟨σ3, g3, s3, r3, m3, t3, d3, h3⟩
      | _ => cases h3
  | exit id => intro C hE k r σ h F n fr w0 hw0 hW hn hF g a w hs hr; exact wpIn_exit (Post.here hs hr h)
  | scope c ih =>
    intro C hE k r σ h F n fr w0 hw0 hW hn hF g a w hs hr
    unfold exec at h
    refine wpIn_scope (wpIn_mono (ih C hE k r σ h F n fr w0 hw0 hW hn hF g a w hs hr) ?_)
    rintro e a1 w1 ⟨σ1, g1, h1, h2, h3, h4, h5, h7⟩
    cases e with
    | normal => exact ⟨σ1, g1, h1, h2, h3, h4, h5, h7⟩
    | exit id => exact ⟨σ1, g1, h1, h2, h3, h4, h5, h7⟩
    | ret => exact ⟨σ1, g1, h1, h2, h3, h4, h5, h7⟩
    | _ => cases h7
  | ret => intro C hE k r σ h F n fr w0 hw0 hW hn hF g a w hs hr; exact wpIn_ret (Post.here hs hr h)
  | goto l => intro C hE k r σ h; cases h
  | refuse why => intro C hE k r σ h; cases h
  | rangeFunc f ps as body iha ihb => exact range_sound hI iha ihb
end
end Go.Proofs.Ytgmjbnglenmlpaa.Ab
end
section
/- The abstract machine: functions. -/
set_option linter.unusedVariables false
set_option linter.unusedSimpArgs false
namespace Go.Proofs.Ytgmjbnglenmlpaa.Ab
open Go Go.RowKit
@[reducible] def prodT : List DTy → DTy
  | [] => .unit
  | a :: l => .prod a (prodT l)
@[reducible] def resT : List DTy → DTy
  | [a] => a
  | l => prodT l
/-- A function's kinds, and what it computes. -/
structure Sg where
  ps : List DTy
  rs : List DTy
  F : (prodT ps).den → Option (resT rs).den
/-- A datum as a value. -/
def VRel (hw : Nat → Nat) (w : World) (τ : DTy) (x : τ.den) (v : Value) : Prop := ∃ cs, CRel hw w τ x cs ∧ v = wrapV τ cs
def VsRel (hw : Nat → Nat) (w : World) : (ps : List DTy) → (prodT ps).den → List Value → Prop
  | [], _, vs => vs = []
  | a :: l, x, vs => ∃ v r, vs = v :: r ∧ VRel hw w a x.1 v ∧ VsRel hw w l x.2 r
def ResRel (hw : Nat → Nat) (w : World) : (rs : List DTy) → (resT rs).den → Value → Prop
  | [a], x, v => VRel hw w a x v
  | [], x, v => v = .tuple #[]
  | a :: b :: l, x, v => ∃ vs : Array Value, v = .tuple vs ∧ VsRel hw w (a :: b :: l) x vs.toList
/-- A function that leaves memory alone but for what it makes. -/
def PureC (P : Program) (f : Nat) (sg : Sg) : Prop := ∀ x r, sg.F x = some r → ∀ (hw : Nat → Nat) (w : World) (vs : Array Value), (∀ b, NoCells w b → hw b = 0) → VsRel hw w sg.ps x vs.toList →
  Calls P f vs w (fun e w' => ∃ v hw', e = .returned v ∧ Below w.heap.size w w' ∧ (∀ b, b < w.heap.size → hw' b = hw b) ∧ (∀ b, NoCells w' b → hw' b = 0) ∧ ResRel hw' w' sg.rs r v)
def argSlots : (ps : List DTy) → (prodT ps).den → Nat → Nat → AVal
  | [], _, _, _ => .und
  | a :: l, x, i, t => cond (Nat.beq t i) (.d a x.1) (argSlots l x.2 (i + 1) t)
/-- The state that a function begins in. -/
def init (ps : List DTy) (x : (prodT ps).den) : St := ⟨argSlots ps x 0, fun _ => .none⟩
/-- A result's value. -/
def resA (E : Env) (σ : St) : ResultVar → Option AVal
  | .tmp t => some (σ.tmps t)
  | .cell a t => (E.ty t).bind fun r => match σ.tmps a with
    | .ptr id off => (boxOf (σ.objs id)).bind fun cs => ifB (Nat.ble (off + r.size) cs.length) (cond r.kind.agg (some (dOr r.dty ((cs.drop off).take r.size))) (ifB (Nat.beq r.size 1) (some (cs.getD off .junk))))
    | _ => none
def retAs (E : Env) (σ : St) : (rs : List DTy) → List ResultVar → Option (prodT rs).den
  | [], [] => some ()
  | a :: l, v :: vs => (resA E σ v).bind fun u => (as a u).bind fun x => (retAs E σ l vs).map fun y => (x, y)
  | _, _ => none
def retA (E : Env) (rs : List DTy) (vs : List ResultVar) (σ : St) : Option (resT rs).den :=
  match rs with
  | [a] => (retAs E σ [a] vs).map (·.1)
  | [] => retAs E σ [] vs
  | a :: b :: l => retAs E σ (a :: b :: l) vs
def resSem (tmps : Array Value) : ResultVar → Sem Value
  | .tmp t => pure (tmps.getD t undef)
  | .cell p t => do loadVar t (← asAddr (tmps.getD p undef))
theorem results_eq (fn : Func) (tmps : Array Value) : results fn tmps = (do let vs ← fn.results.mapM (resSem tmps); pure (if h : vs.size = 1 then vs[0] else .tuple vs)) := by
  unfold results resSem
  rfl
section
variable {P : Program} {E : Env} {π : Par} {fr : Nat → Prop} {w0 : World} {hw0 : Nat → Nat} {g : G} {w : World}
theorem resA_run (hE : EnvOk P E π) {nt : Nat} {σ : St} {a : Act} (hs : Sim π fr w0 hw0 g σ.objs w) (hr : FrR nt g σ a w) {v : ResultVar} {u : AVal} (h : resA E σ v = some u) :
    ∃ x, (resSem a.tmps v).run P w = .ok x w ∧ ARel g σ.objs w u x := by
  cases v with
  | tmp t => cases h; exact ⟨_, rfl, hr.tmps t⟩
  | cell p t =>
    unfold resA at h
    obtain ⟨r, hrow, h1⟩ := bind_some h
    have hp := hr.tmps p
    cases hpp : σ.tmps p with
    | ptr id off =>
      rw [hpp] at h1 hp
      dsimp only at h1
      obtain ⟨cs, hcs, h2⟩ := bind_some h1
      obtain ⟨hle, h3⟩ := ifB_some h2
      have hop : opLoad E t (.ptr id off) σ.objs = retR id u := by
        unfold opLoad
        rw [hrow]
        dsimp only [Option.bind_some]
        rw [hcs]
        dsimp only [Option.bind_some]
        rw [hle]
        cases hk : r.kind.agg with
        | true => rw [hk] at h3; cases h3; rfl
        | false =>
          rw [hk] at h3
          obtain ⟨h4, h5⟩ := ifB_some h3
          cases h5
          rw [h4]
          rfl
      obtain ⟨cs', u', rs', he, hu⟩ := opLoad_run hE.ty hs hop hp
      have : cs' = [] ∧ u' = u := by
        injection he with e1 e2 e3 e4
        refine ⟨e1.symm, ?_⟩
        have := congrFun e4 ()
        injection this with e5
        exact e5.symm
      obtain ⟨rfl, rfl⟩ := this
      obtain ⟨x, hx, hux⟩ := hu (fun b hb => by cases hb)
      refine ⟨x, ?_, hux⟩
      have key : ∀ pv : Value, ARel g σ.objs w (.ptr id off) pv → (Instr.loadAt t pv).run P w = .ok x w → (do loadVar t (← asAddr pv) : Sem Value).run P w = .ok x w := by
        intro pv hp hx
        cases hp with
        | ptr hn hv =>
          simp only [asAddr, Sem.run_bind, Sem.run_pure, Result.andThen_ok]
          simp only [Instr.loadAt, Instr.sureAddr, Sem.run_bind, Sem.run_pure, Result.andThen_ok] at hx
          exact hx
      exact key _ hp hx
    | _ => rw [hpp] at h1; cases h1
theorem retAs_run (hE : EnvOk P E π) {nt : Nat} {σ : St} {a : Act} (hs : Sim π fr w0 hw0 g σ.objs w) (hr : FrR nt g σ a w) : ∀ {rs : List DTy} {vs : List ResultVar} {y : (prodT rs).den}, retAs E σ rs vs = some y →
    ∃ xs : List Value, (vs.mapM (resSem a.tmps) : Sem (List Value)).run P w = .ok xs w ∧ VsRel g.hw w rs y xs := by
  intro rs
  induction rs with
  | nil =>
    intro vs y h
    cases vs with
    | nil => exact ⟨[], rfl, rfl⟩
    | cons _ _ => cases h
  | cons t rs ih =>
    intro vs y h
    cases vs with
    | nil => cases h
    | cons v vs =>
      unfold retAs at h
      obtain ⟨u, hu, h⟩ := bind_some h
      obtain ⟨x, hx, h⟩ := bind_some h
      obtain ⟨y', hy, h⟩ := Option.map_eq_some_iff.1 h
      cases h
      obtain ⟨xv, h1, h2⟩ := resA_run hE hs hr hu
      obtain ⟨xs, h3, h4⟩ := ih hy
      obtain ⟨cs, hc, hcv⟩ := arel_d (as_rel hx h2)
      refine ⟨xv :: xs, ?_, xv, xs, rfl, ⟨cs, hc, hcv⟩, h4⟩
      rw [List.mapM_cons, Sem.run_bind, h1, Result.andThen_ok, Sem.run_bind, h3]
      rfl
theorem retA_run (hE : EnvOk P E π) {nt : Nat} {σ : St} {a : Act} (hs : Sim π fr w0 hw0 g σ.objs w) (hr : FrR nt g σ a w) {rs : List DTy} {fn : Func} {y : (resT rs).den} (h : retA E rs fn.results.toList σ = some y) :
    ∃ v, (results fn a.tmps).run P w = .ok v w ∧ ResRel g.hw w rs y v := by
  have main : ∀ {l : List DTy} {z : (prodT l).den}, retAs E σ l fn.results.toList = some z → ∃ xs : List Value, (results fn a.tmps).run P w = .ok (if h : xs.toArray.size = 1 then xs.toArray[0] else .tuple xs.toArray) w ∧ VsRel g.hw w l z xs := by
    intro l z hz
    obtain ⟨xs, h1, h2⟩ := retAs_run hE hs hr hz
    refine ⟨xs, ?_, h2⟩
    rw [results_eq, Sem.run_bind, Array.mapM_eq_mapM_toList, Sem.run_map, h1]
    rfl
  unfold retA at h
  match rs, y, h with
  | [t], y, h =>
    obtain ⟨z, hz, rfl⟩ := Option.map_eq_some_iff.1 h
    obtain ⟨xs, h1, v, r, rfl, h2, h3⟩ := main hz
    cases h3
    exact ⟨v, by rw [h1]; rfl, h2⟩
  | [], y, h =>
    obtain ⟨xs, h1, h2⟩ := main h
    cases h2
    exact ⟨_, by rw [h1]; rfl, rfl⟩
  | t :: t' :: l, y, h =>
    obtain ⟨xs, h1, h2⟩ := main h
    refine ⟨.tuple xs.toArray, ?_, xs.toArray, rfl, by simpa using h2⟩
    rw [h1, dif_neg]
    obtain ⟨v, r, rfl, _, v', r', rfl, _⟩ := h2
    simp
/-- The state at a function's begin. -/
theorem args_rel {hw : Nat → Nat} : ∀ {ps : List DTy} {x : (prodT ps).den} {vs : List Value} {i nt : Nat}, VsRel hw w ps x vs → ∀ (pre : List Value), pre.length = i → ∀ (k : Nat) t, i ≤ t →
    ARel ⟨hw, fun _ => 0, fun _ => undef, fun _ _ => False⟩ (fun _ => .none) w (argSlots ps x i t) ((pre ++ vs ++ List.replicate k undef).getD t undef) := by
  intro ps
  induction ps with
  | nil =>
    intro x vs i nt h pre hp k t ht
    cases h
    have : (pre ++ [] ++ List.replicate k undef).getD t undef = undef := by
      rw [List.append_nil, List.getD_eq_getElem?_getD, List.getElem?_append_right (by omega)]
      by_cases hk : t - pre.length < k
      · rw [List.getElem?_replicate_of_lt hk]; rfl
      · rw [List.getElem?_eq_none (by simp; omega)]; rfl
    rw [this]
    exact .und
  | cons a l ih =>
    intro x vs i nt h pre hp k t ht
    obtain ⟨v, r, rfl, ⟨cs, hc, rfl⟩, h2⟩ := h
    unfold argSlots
    cases hb : Nat.beq t i with
    | true =>
      obtain rfl := Nat.eq_of_beq_eq_true hb
      have : (pre ++ wrapV a cs :: r ++ List.replicate k undef).getD t undef = wrapV a cs := by
        rw [List.getD_eq_getElem?_getD, List.append_assoc, List.getElem?_append_right (by omega), hp, Nat.sub_self]
        rfl
      rw [this]
      exact .d hc
    | false =>
      have hne : t ≠ i := fun e => by subst e; simp at hb
      have := ih (i := i + 1) (nt := nt) h2 (pre ++ [wrapV a cs]) (by simp [hp]) k t (by omega)
      rw [List.append_assoc, List.append_assoc, List.singleton_append] at this
      rw [List.append_assoc]
      exact this
theorem vs_len {hw : Nat → Nat} : ∀ {ps : List DTy} {x : (prodT ps).den} {vs : List Value}, VsRel hw w ps x vs → vs.length = ps.length := by
  intro ps
  induction ps with
  | nil => intro x vs h; cases h; rfl
  | cons a l ih => intro x vs h; obtain ⟨v, r, rfl, _, h2⟩ := h; simp [ih h2]
/-- Behind a function's body: the marks are taken away. -/
theorem leaves_marks (hE : EnvOk P E π) {nt : Nat} {σ : St} {a : Act} {rs : List DTy} {fn : Func} {y : (resT rs).den} (h : retA E rs fn.results.toList σ = some y) {F : Fence} {n : Nat} {R : Ending → World → Prop} (hfr : ∀ b, ¬ fr b → w0.heap.size ≤ b)
    (hR : ∀ w v, Sim π fr w0 hw0 g σ.objs w → ResRel g.hw w rs y v → R (.returned v) w) : ∀ (Ds : List Nat) (w : World), Sim π fr w0 hw0 g σ.objs w → FrR nt g σ a w → Marks fr w Ds → LeavesInM F n P fn a.tmps R (Ds.map markOf) .returning w := by
  intro Ds
  induction Ds with
  | nil =>
    intro w hs hr _
    obtain ⟨v, h1, h2⟩ := retA_run hE hs hr h
    exact ⟨v, h1, hR w v hs h2⟩
  | cons D Ds ih =>
    intro w hs hr hm
    have hD := hm.laid D List.mem_cons_self
    have hb : Btw π fr w0 hw0 (fun _ => False) nt { g with hw := fun _ => 0 } a w0 σ g w := ⟨hs, hr, ⟨fun _ => Nat.zero_le _, fun _ _ h => absurd h (by simp)⟩, hs.size, fun _ h => h.elim⟩
    have hb2 := hb.turn hE.par (Nat.le_refl _) (RF.Turn.put (.deferred none) (hfr D (hm.new D List.mem_cons_self)) hD rfl)
    refine ⟨by simp, .inl ⟨D, _, rfl, run_takeDeferred hD, ih _ hb2.sim hb2.frr ⟨(List.nodup_cons.1 hm.once).2, fun D' h' => hm.new D' (List.mem_cons_of_mem _ h'), fun D' h' => ?_⟩⟩⟩
    have hne : D' ≠ D := fun e => (List.nodup_cons.1 hm.once).1 (e ▸ h')
    show (w.putObj D (.deferred none)).heap[D']? = _
    simp only [World.putObj]
    rw [Array.getElem?_setIfInBounds_ne (Ne.symm hne)]
    exact hm.laid D' (List.mem_cons_of_mem _ h')
/-- A function's contract from its text. -/
theorem fn_sound (hI : ItOk P π) (hE : EnvOk P E π) (hm : P.follows .mixedOrders = true) {f : Nat} {fn : Func} {c : Code} (hf : P.funcs[f]? = some fn) (hb : fn.body = some c) {ps rs : List DTy} {nt fuel : Nat} {nm : Nat → NormSpec} {pr : Nat → Option NormSpec} {gx : Nat → Nat} (hnt : fn.ntmps = nt) (hle : ps.length ≤ nt)
    {rl : List ResultVar} (hrl : fn.results.toList = rl) :
    PureC P f ⟨ps, rs, fun x => exec c ⟨E, nt, fuel, nm, retA E rs rl, [], fun _ => false, pr, gx⟩ (retA E rs rl) (init ps x)⟩ := by
  subst hnt
  subst hrl
  intro x r h hw w vs hz hv
  rw [← callsIn_wide (n := rfDepth c)]
  refine callsIn_of_wp_marks hf hb trivial ?_ rfl
  have hvl := vs_len hv
  simp only [Array.length_toList] at hvl
  let g : G := ⟨hw, fun _ => 0, fun _ => undef, fun _ _ => False⟩
  have hs : Sim π (fun b => b < w.heap.size) w hw g (init ps x).objs w := by
    refine ⟨rfl, rfl, rfl, Nat.le_refl _, fun b hb => hb, fun b hb => ⟨rfl, rfl⟩, hz, fun id => trivial, fun id b hn => absurd rfl hn, fun id id' b hn => absurd rfl hn, fun id b hn => absurd rfl hn⟩
  have hfr : FrR fn.ntmps g (init ps x) { tmps := vs ++ Array.replicate (fn.ntmps - vs.size) undef, defers := [] } w := by
    refine ⟨by simp; omega, fun t => ?_⟩
    have := args_rel (nt := 0) hv [] rfl (fn.ntmps - vs.size) t (Nat.zero_le _)
    have e : (vs ++ Array.replicate (fn.ntmps - vs.size) undef).getD t undef = ([] ++ vs.toList ++ List.replicate (fn.ntmps - vs.size) undef).getD t undef := by
      rw [Array.getD_eq_getD_getElem?, List.getD_eq_getElem?_getD, ← Array.getElem?_toList]
      simp
    dsimp only
    rw [e]
    exact this
  have hrec : rfDepth c = 0 ∨ FRec Fence.wide (fun b => b < w.heap.size) w := .inr (fun l hl => by cases hl)
  refine wpIn_mono (exec_sound hI hm c ⟨E, fn.ntmps, fuel, nm, retA E rs fn.results.toList, [], fun _ => false, pr, gx⟩ hE _ r _ h Fence.wide (rfDepth c) _ w hw (.inl rfl) (Nat.le_refl _) hrec g _ w hs hfr) ?_
  rintro e a' w' ⟨σ', g', s1, r1, m1, t1, ⟨Ds, d1, k1⟩, h1⟩
  have fin : retA E rs fn.results.toList σ' = some r → LeavesInM Fence.wide (rfDepth c) P fn a'.tmps (fun e w' => ∃ v hw', e = .returned v ∧ Below w.heap.size w w' ∧ (∀ b, b < w.heap.size → hw' b = hw b) ∧ (∀ b, NoCells w' b → hw' b = 0) ∧ ResRel hw' w' rs r v) a'.defers .returning w' := by
    intro hret
    rw [d1]
    simp only [List.append_nil]
    refine leaves_marks hE hret (R := fun e w' => ∃ v hw', e = .returned v ∧ Below w.heap.size w w' ∧ (∀ b, b < w.heap.size → hw' b = hw b) ∧ (∀ b, NoCells w' b → hw' b = 0) ∧ ResRel hw' w' rs r v) (fun b hb => by omega) (fun w2 v s2 h3 => ?_) Ds w' s1 r1 k1
    exact ⟨v, g'.hw, rfl, ⟨s2.os, s2.tape, s2.output, s2.size, fun b hb => (s2.frame b hb).1⟩, fun b hb => (s2.frame b hb).2, s2.hwz, h3⟩
  cases e with
  | normal => exact fin h1
  | ret => exact fin h1
  | exit id => cases h1
  | _ => cases h1
/-- The same function, said otherwise. -/
theorem PureC.say {f : Nat} {ps rs : List DTy} {F F' : (prodT ps).den → Option (resT rs).den} (h : PureC P f ⟨ps, rs, F⟩) (he : ∀ x, F x = F' x) : PureC P f ⟨ps, rs, F'⟩ := by
  intro x r hx
  exact h x r ((he x).trans hx)
end
end Go.Proofs.Ytgmjbnglenmlpaa.Ab
end
