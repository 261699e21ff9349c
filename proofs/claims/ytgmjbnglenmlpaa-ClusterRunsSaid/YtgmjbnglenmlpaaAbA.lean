import Derived.CallsIn
import Derived.OrdersIn
import Derived.Below
import Derived.Laws.Strings
import Derived.Laws.StructEq
import Derived.Laws.Slices
import Derived.WalkKit
import Derived.Laws.BytesString
import Derived.Lib.Strings
section
/- An abstract machine for Go's code: its types, its values, its states, and what a value of it says of a value of the machine. No program in sight. -/
set_option linter.unusedVariables false
namespace Go.Proofs.Ytgmjbnglenmlpaa.Ab
open Go Go.RowKit
/-- Types of plain data. A struct ends with 'unit'. -/
inductive DTy where
  | int (k : IntKind) | bool | str | slice (e : DTy) | prod (a b : DTy) | unit
  deriving DecidableEq
@[reducible] def DTy.den : DTy → Type
  | .int _ => Int
  | .bool => Bool
  | .str => List UInt8
  | .slice e => List e.den
  | .prod a b => a.den × b.den
  | .unit => Unit
def DTy.dflt : (τ : DTy) → τ.den
  | .int _ => (0 : Int)
  | .bool => false
  | .str => ([] : List UInt8)
  | .slice _ => []
  | .prod a b => (a.dflt, b.dflt)
  | .unit => ()
def DTy.size : DTy → Nat
  | .prod a b => a.size + b.size
  | .unit => 0
  | _ => 1
def DTy.agg : DTy → Bool
  | .prod _ _ => true
  | .unit => true
  | _ => false
def castD (a b : DTy) (x : a.den) : Option b.den := if h : a = b then some (h ▸ x) else none
/-- Values. -/
inductive AVal where
  | d (τ : DTy) (x : τ.den)
  | lit (e : DTy) (l : List e.den)
  | nils
  | vs (id ver : Nat) (e : DTy) (l : List e.den)
  | ptr (id off : Nat)
  | nilp
  | cp (τ : DTy) (x : τ.den)
  | fn (f : Nat) (cap : List AVal)
  | tup (l : List AVal)
  | agg (l : List AVal)
  | it (id : Nat)
  | und
  | junk
inductive AObj where
  | none
  | box (cs : List AVal)
  | vec (e : DTy) (ver : Nat)
  | bld (s : List UInt8)
  | iter (τ : DTy) (l : List τ.den)
structure St where
  tmps : Nat → AVal
  objs : Nat → AObj
def put {α : Type} (f : Nat → α) (i : Nat) (v : α) : Nat → α := fun j => cond (Nat.beq j i) v (f j)
theorem put_same {α : Type} (f : Nat → α) (i : Nat) (v : α) : put f i v i = v := by simp [put]
theorem put_ne {α : Type} (f : Nat → α) {i j : Nat} (v : α) (h : j ≠ i) : put f i v j = f j := by
  have : Nat.beq j i = false := by
    cases hb : Nat.beq j i with
    | false => rfl
    | true => exact absurd (Nat.eq_of_beq_eq_true hb) h
  simp [put, this]
theorem put_comm {α : Type} (f : Nat → α) {i j : Nat} (v u : α) (h : i ≠ j) : put (put f i v) j u = put (put f j u) i v := by
  funext k
  by_cases hi : k = i
  · subst hi; rw [put_ne _ _ h, put_same, put_same]
  · by_cases hj : k = j
    · subst hj; rw [put_same, put_ne _ _ hi, put_same]
    · rw [put_ne _ _ hj, put_ne _ _ hi, put_ne _ _ hi, put_ne _ _ hj]
/-- The leaf of a type that a value is. -/
def leafAs (τ : DTy) : AVal → Option τ.den
  | .d τ' x => castD τ' τ x
  | .lit e l => castD (.slice e) τ l
  | .vs _ _ e l => castD (.slice e) τ l
  | .nils => match τ with
    | .slice _ => some []
    | _ => none
  | _ => none
/-- A value of so many leaves out of cells; what is left of these. -/
def asm : (τ : DTy) → List AVal → Option (τ.den × List AVal)
  | .prod a b, cs => (asm a cs).bind fun p => (asm b p.2).map fun q => ((p.1, q.1), q.2)
  | .unit, cs => some ((), cs)
  | .int k, c :: r => (leafAs (.int k) c).map fun x => (x, r)
  | .bool, c :: r => (leafAs .bool c).map fun x => (x, r)
  | .str, c :: r => (leafAs .str c).map fun x => (x, r)
  | .slice e, c :: r => (leafAs (.slice e) c).map fun x => (x, r)
  | _, [] => none
def whole {α : Type} : Option (α × List AVal) → Option α
  | some (x, []) => some x
  | _ => none
/-- A value as one of a type. -/
def as (τ : DTy) : AVal → Option τ.den
  | .agg cs => cond τ.agg (whole (asm τ cs)) none
  | .d τ' x => castD τ' τ x
  | v => leafAs τ v
def dcells : (τ : DTy) → τ.den → List AVal
  | .prod a b, x => dcells a x.1 ++ dcells b x.2
  | .unit, _ => []
  | .int k, x => [.d (.int k) x]
  | .bool, x => [.d .bool x]
  | .str, x => [.d .str x]
  | .slice e, x => [.d (.slice e) x]
/-- May a value be a cell's? -/
def AVal.leaf : AVal → Bool
  | .d τ _ => !τ.agg
  | .lit _ _ => true
  | .nils => true
  | .vs _ _ _ _ => true
  | .ptr _ _ => true
  | .nilp => true
  | .cp _ _ => true
  | .fn _ _ => true
  | _ => false
/-- The cells of a value. -/
def AVal.cells : AVal → Option (List AVal)
  | .agg cs => cond (cs.all AVal.leaf) (some cs) none
  | .d τ x => some (dcells τ x)
  | v => cond v.leaf (some [v]) none
/-- Value by value. -/
def AllR (R : AVal → Value → Prop) : List AVal → List Value → Prop
  | [], [] => True
  | u :: us, v :: vs => R u v ∧ AllR R us vs
  | _, _ => False
/-- What the proof knows of the world besides: how many cells of each block never turn; where each object lies; the slice (or the function value) an object is now; the blocks that are its own. -/
structure G where
  hw : Nat → Nat
  loc : Nat → Nat
  cur : Nat → Value
  own : Nat → Nat → Prop
/-- The block b holds these cells from o on. -/
def Holds (w : World) (b o : Nat) (cs : List Value) : Prop := ∀ j, j < cs.length → w.cell? ⟨b, o + j, none⟩ = cs[j]?
/-- The cells of a datum. -/
def CRel (hw : Nat → Nat) (w : World) : (τ : DTy) → τ.den → List Value → Prop
  | .int k, x, cs => cs = [.int k x]
  | .bool, x, cs => cs = [.bool x]
  | .str, x, cs => cs = [.string ⟨x.toArray⟩]
  | .slice e, l, cs => ∃ A c, cs = [.slice A l.length c] ∧ l.length ≤ c ∧
      ∀ i, i < l.length → ∃ b o es, A = some ⟨b, o, none⟩ ∧ CRel hw w e (l.getD i e.dflt) es ∧ Holds w b (o + i * e.size) es ∧ o + i * e.size + e.size ≤ hw b
  | .prod a b, x, cs => ∃ c1 c2, cs = c1 ++ c2 ∧ CRel hw w a x.1 c1 ∧ CRel hw w b x.2 c2
  | .unit, _, cs => cs = []
/-- A datum's cells as one value. -/
def wrapV (τ : DTy) (cs : List Value) : Value := if τ.agg then .agg cs.toArray else cs.headD undef
inductive ARel (g : G) (O : Nat → AObj) (w : World) : AVal → Value → Prop
  | d {τ : DTy} {x : τ.den} {cs : List Value} (h : CRel g.hw w τ x cs) : ARel g O w (.d τ x) (wrapV τ cs)
  | lit {e : DTy} {l : List e.den} {A : Option Addr} (h : CRel g.hw w (.slice e) l [.slice A l.length l.length]) : ARel g O w (.lit e l) (.slice A l.length l.length)
  | nils : ARel g O w .nils (.slice none 0 0)
  | vs {id ver k : Nat} {e : DTy} {l : List e.den} {v : Value} (h : CRel g.hw w (.slice e) l [v]) (ho : O id = .vec e k) (hk : ver ≤ k) (hc : k = ver → g.cur id = v) : ARel g O w (.vs id ver e l) v
  | ptr {id off : Nat} (hn : O id ≠ .none) (hv : ∀ e k, O id ≠ .vec e k) : ARel g O w (.ptr id off) (.pointer (some ⟨g.loc id, off, none⟩))
  | nilp : ARel g O w .nilp (.pointer none)
  | cp {τ : DTy} {x : τ.den} {cs : List Value} {b o : Nat} (h : CRel g.hw w τ x cs) (hh : Holds w b o cs) (hp : o + τ.size ≤ g.hw b) : ARel g O w (.cp τ x) (.pointer (some ⟨b, o, none⟩))
  | fn {f : Nat} {cap : List AVal} {vs : Array Value} (hl : cap.length = vs.size) (h : ∀ i, i < cap.length → ARel g O w (cap.getD i .junk) (vs.getD i undef)) : ARel g O w (.fn f cap) (.func (.func f) #[] vs)
  | tup {l : List AVal} {vs : Array Value} (hl : l.length = vs.size) (h : ∀ i, i < l.length → ARel g O w (l.getD i .junk) (vs.getD i undef)) : ARel g O w (.tup l) (.tuple vs)
  | agg {l : List AVal} {vs : Array Value} (hl : l.length = vs.size) (h : ∀ i, i < l.length → ARel g O w (l.getD i .junk) (vs.getD i undef)) : ARel g O w (.agg l) (.agg vs)
  | it {id : Nat} {τ : DTy} {l : List τ.den} (h : O id = .iter τ l) : ARel g O w (.it id) (g.cur id)
  | und : ARel g O w .und undef
  | junk {v : Value} : ARel g O w .junk v
/-- The world goes on: nothing that stands turns. -/
structure Adv (g : G) (O : Nat → AObj) (w : World) (g' : G) (O' : Nat → AObj) (w' : World) : Prop where
  hw : ∀ b, g.hw b ≤ g'.hw b
  cell : ∀ b o, o < g.hw b → w'.cell? ⟨b, o, none⟩ = w.cell? ⟨b, o, none⟩
  vec : ∀ id e k, O id = .vec e k → ∃ k', O' id = .vec e k' ∧ k ≤ k' ∧ (k' = k → g'.cur id = g.cur id)
  loc : ∀ id, O id ≠ .none → (∀ e k, O id ≠ .vec e k) → O' id ≠ .none ∧ (∀ e k, O' id ≠ .vec e k) ∧ g'.loc id = g.loc id
  iter : ∀ id τ l, O id = .iter τ l → O' id = .iter τ l ∧ g'.cur id = g.cur id
theorem Adv.refl (g : G) (O : Nat → AObj) (w : World) : Adv g O w g O w :=
  ⟨fun _ => Nat.le_refl _, fun _ _ _ => rfl, fun _ _ k h => ⟨k, h, Nat.le_refl _, fun _ => rfl⟩, fun _ h h' => ⟨h, h', rfl⟩, fun _ _ _ h => ⟨h, rfl⟩⟩
theorem Adv.trans {g1 g2 g3 : G} {O1 O2 O3 : Nat → AObj} {w1 w2 w3 : World} (h : Adv g1 O1 w1 g2 O2 w2) (k : Adv g2 O2 w2 g3 O3 w3) : Adv g1 O1 w1 g3 O3 w3 := by
  refine ⟨fun b => Nat.le_trans (h.hw b) (k.hw b), fun b o ho => (k.cell b o (Nat.lt_of_lt_of_le ho (h.hw b))).trans (h.cell b o ho), fun id e v hv => ?_, fun id hn hv => ?_, fun id τ l hi => ?_⟩
  · obtain ⟨v1, a1, b1, c1⟩ := h.vec id e v hv
    obtain ⟨v2, a2, b2, c2⟩ := k.vec id e v1 a1
    exact ⟨v2, a2, Nat.le_trans b1 b2, fun hh => (c2 (by omega)).trans (c1 (by omega))⟩
  · obtain ⟨a1, b1, c1⟩ := h.loc id hn hv
    obtain ⟨a2, b2, c2⟩ := k.loc id a1 b1
    exact ⟨a2, b2, c2.trans c1⟩
  · obtain ⟨a1, b1⟩ := h.iter id τ l hi
    obtain ⟨a2, b2⟩ := k.iter id τ l a1
    exact ⟨a2, b2.trans b1⟩
theorem CRel.length {hw : Nat → Nat} {w : World} : ∀ {τ : DTy} {x : τ.den} {cs : List Value}, CRel hw w τ x cs → cs.length = τ.size := by
  intro τ
  induction τ with
  | int k => intro x cs h; rw [CRel] at h; subst h; rfl
  | bool => intro x cs h; rw [CRel] at h; subst h; rfl
  | str => intro x cs h; rw [CRel] at h; subst h; rfl
  | slice e ih => intro x cs h; rw [CRel] at h; obtain ⟨A, c, rfl, _⟩ := h; rfl
  | prod a b iha ihb => intro x cs h; rw [CRel] at h; obtain ⟨c1, c2, rfl, h1, h2⟩ := h; rw [List.length_append, iha h1, ihb h2]; rfl
  | unit => intro x cs h; rw [CRel] at h; subst h; rfl
theorem Holds.mono {w w' : World} {hw : Nat → Nat} (hc : ∀ b o, o < hw b → w'.cell? ⟨b, o, none⟩ = w.cell? ⟨b, o, none⟩) {b o : Nat} {cs : List Value} (h : Holds w b o cs) (hp : o + cs.length ≤ hw b) : Holds w' b o cs := by
  intro j hj
  rw [hc b (o + j) (by omega)]
  exact h j hj
theorem CRel.mono {hw hw' : Nat → Nat} {w w' : World} (hm : ∀ b, hw b ≤ hw' b) (hc : ∀ b o, o < hw b → w'.cell? ⟨b, o, none⟩ = w.cell? ⟨b, o, none⟩) :
    ∀ {τ : DTy} {x : τ.den} {cs : List Value}, CRel hw w τ x cs → CRel hw' w' τ x cs := by
  intro τ
  induction τ with
  | int k => intro x cs h; rw [CRel] at h ⊢; exact h
  | bool => intro x cs h; rw [CRel] at h ⊢; exact h
  | str => intro x cs h; rw [CRel] at h ⊢; exact h
  | slice e ih =>
    intro x cs h
    rw [CRel] at h ⊢
    obtain ⟨A, c, h1, h2, h3⟩ := h
    refine ⟨A, c, h1, h2, fun i hi => ?_⟩
    obtain ⟨b, o, es, ha, hr, hh, hp⟩ := h3 i hi
    exact ⟨b, o, es, ha, ih hr, hh.mono hc (by rw [hr.length]; omega), Nat.le_trans hp (hm b)⟩
  | prod a b iha ihb => intro x cs h; rw [CRel] at h ⊢; obtain ⟨c1, c2, h1, h2, h3⟩ := h; exact ⟨c1, c2, h1, iha h2, ihb h3⟩
  | unit => intro x cs h; rw [CRel] at h ⊢; exact h
theorem ARel.mono {g g' : G} {O O' : Nat → AObj} {w w' : World} (ha : Adv g O w g' O' w') {u : AVal} {v : Value} (h : ARel g O w u v) : ARel g' O' w' u v := by
  induction h with
  | d h => exact .d (h.mono ha.hw ha.cell)
  | lit h => exact .lit (h.mono ha.hw ha.cell)
  | nils => exact .nils
  | vs h ho hk hc =>
    obtain ⟨k', h1, h2, h3⟩ := ha.vec _ _ _ ho
    exact .vs (h.mono ha.hw ha.cell) h1 (Nat.le_trans hk h2) (fun hh => (h3 (by omega)).trans (hc (by omega)))
  | ptr hn hv =>
    obtain ⟨h1, h2, h3⟩ := ha.loc _ hn hv
    rw [← h3]
    exact .ptr h1 h2
  | nilp => exact .nilp
  | cp h hh hp => exact .cp (h.mono ha.hw ha.cell) (hh.mono ha.cell (by rw [h.length]; exact hp)) (Nat.le_trans hp (ha.hw _))
  | fn hl _ ih => exact .fn hl ih
  | tup hl _ ih => exact .tup hl ih
  | agg hl _ ih => exact .agg hl ih
  | it h => obtain ⟨h1, h2⟩ := ha.iter _ _ _ h; rw [← h2]; exact .it h1
  | und => exact .und
  | junk => exact .junk
end Go.Proofs.Ytgmjbnglenmlpaa.Ab
end
section
/- The abstract machine: how a world bears a state's objects, and how it goes on. No program in sight. -/
set_option linter.unusedVariables false
namespace Go.Proofs.Ytgmjbnglenmlpaa.Ab
open Go Go.RowKit
/-- What iterators are made of (see the text on loops over functions): the iterator id hands out l in the world w. -/
abbrev ItP := G → World → (id : Nat) → (τ : DTy) → List τ.den → Prop
/-- What a strings.Builder is: at its place, with its buffer, its text. -/
abbrev BdP := World → (b : Nat) → Value → List UInt8 → Prop
structure Par where
  it : ItP
  bd : BdP
theorem AllR.mono {R R' : AVal → Value → Prop} (h : ∀ u v, R u v → R' u v) : ∀ {us : List AVal} {vs : List Value}, AllR R us vs → AllR R' us vs := by
  intro us
  induction us with
  | nil => intro vs hr; cases vs with
    | nil => trivial
    | cons _ _ => exact hr.elim
  | cons u us ih => intro vs hr; cases vs with
    | nil => exact hr.elim
    | cons v vs => exact ⟨h _ _ hr.1, ih hr.2⟩
theorem AllR.length {R : AVal → Value → Prop} : ∀ {us : List AVal} {vs : List Value}, AllR R us vs → us.length = vs.length := by
  intro us
  induction us with
  | nil => intro vs hr; cases vs with
    | nil => rfl
    | cons _ _ => exact hr.elim
  | cons u us ih => intro vs hr; cases vs with
    | nil => exact hr.elim
    | cons v vs => simp [ih hr.2]
theorem AllR.append {R : AVal → Value → Prop} : ∀ {us : List AVal} {vs : List Value} {us' : List AVal} {vs' : List Value}, AllR R us vs → AllR R us' vs' → AllR R (us ++ us') (vs ++ vs') := by
  intro us
  induction us with
  | nil => intro vs us' vs' hr h'; cases vs with
    | nil => exact h'
    | cons _ _ => exact hr.elim
  | cons u us ih => intro vs us' vs' hr h'; cases vs with
    | nil => exact hr.elim
    | cons v vs => exact ⟨hr.1, ih hr.2 h'⟩
theorem AllR.drop {R : AVal → Value → Prop} : ∀ {us : List AVal} {vs : List Value} (n : Nat), AllR R us vs → AllR R (us.drop n) (vs.drop n) := by
  intro us
  induction us with
  | nil => intro vs n hr; cases vs with
    | nil => simp [AllR]
    | cons _ _ => exact hr.elim
  | cons u us ih => intro vs n hr; cases vs with
    | nil => exact hr.elim
    | cons v vs => cases n with
      | zero => exact hr
      | succ n => exact ih n hr.2
theorem AllR.take {R : AVal → Value → Prop} : ∀ {us : List AVal} {vs : List Value} (n : Nat), AllR R us vs → AllR R (us.take n) (vs.take n) := by
  intro us
  induction us with
  | nil => intro vs n hr; cases vs with
    | nil => simp [AllR]
    | cons _ _ => exact hr.elim
  | cons u us ih => intro vs n hr; cases vs with
    | nil => exact hr.elim
    | cons v vs => cases n with
      | zero => trivial
      | succ n => exact ⟨hr.1, ih n hr.2⟩
theorem AllR.get {R : AVal → Value → Prop} : ∀ {us : List AVal} {vs : List Value}, AllR R us vs → ∀ i, i < us.length → R (us.getD i .junk) (vs.getD i undef) := by
  intro us
  induction us with
  | nil => intro vs _ i hi; cases hi
  | cons u us ih => intro vs hr i hi; cases vs with
    | nil => exact hr.elim
    | cons v vs => cases i with
      | zero => exact hr.1
      | succ i => exact ih hr.2 i (by simpa using hi)
theorem AllR.of {R : AVal → Value → Prop} : ∀ {us : List AVal} {vs : List Value}, us.length = vs.length → (∀ i, i < us.length → R (us.getD i .junk) (vs.getD i undef)) → AllR R us vs := by
  intro us
  induction us with
  | nil => intro vs hl _; cases vs with
    | nil => trivial
    | cons _ _ => cases hl
  | cons u us ih => intro vs hl h; cases vs with
    | nil => cases hl
    | cons v vs => exact ⟨h 0 (by simp), ih (by simpa using hl) (fun i hi => h (i + 1) (by simpa using hi))⟩
/-- A row that a slice value owns: its block, cells written so far, room. -/
def VecOk (g : G) (w : World) (id : Nat) (e : DTy) : Prop :=
  ∃ A n c, g.cur id = .slice A n c ∧ n ≤ c ∧
    ((n = c ∧ ∀ b, ¬ g.own id b) ∨ ∃ arr T, A = some ⟨g.loc id, 0, none⟩ ∧ w.heap[g.loc id]? = some (.cells arr T (0, 0)) ∧ arr.size = c * e.size ∧ g.hw (g.loc id) = n * e.size ∧ ∀ b, g.own id b ↔ b = g.loc id)
def ObjOk (π : Par) (g : G) (O : Nat → AObj) (w : World) (id : Nat) : Prop :=
  match O id with
  | .none => True
  | .box cs => (∀ b, g.own id b ↔ b = g.loc id) ∧ g.hw (g.loc id) = 0 ∧ ∃ arr T, w.heap[g.loc id]? = some (.cells arr T (0, 0)) ∧ AllR (ARel g O w) cs arr.toList ∧ ∀ v ∈ arr.toList, v.oneCell' = true
  | .vec e _ => VecOk g w id e
  | .bld s => g.hw (g.loc id) = 0 ∧ g.own id (g.loc id) ∧ (∀ b, g.own id b → g.hw b = 0) ∧ (∀ b, (g.cur id).ownBlock = some b → g.own id b) ∧ π.bd w (g.loc id) (g.cur id) s
  | .iter τ l => (∀ b, g.own id b → g.hw b = 0) ∧ π.it g w id τ l
/-- No row of cells. -/
def NoCells (w : World) (b : Nat) : Prop := ∀ cs t z, w.heap[b]? ≠ some (.cells cs t z)
theorem NoCells.size {w : World} {b : Nat} (h : w.heap.size ≤ b) : NoCells w b := fun cs t z => by rw [Array.getElem?_eq_none h]; simp
theorem NoCells.congr {w w' : World} {b : Nat} (h : w'.heap[b]? = w.heap[b]?) (hn : NoCells w' b) : NoCells w b := fun cs t z e => hn cs t z (h.trans e)
/-- What the parameters owe: they look only at what is the object's own, and at what never turns. -/
structure Par.Ok (π : Par) : Prop where
  it : ∀ {g g' : G} {w w' : World} {id : Nat} {τ : DTy} {l : List τ.den}, (∀ b, g.hw b ≤ g'.hw b) → (∀ b o, o < g.hw b → w'.cell? ⟨b, o, none⟩ = w.cell? ⟨b, o, none⟩) →
    (∀ b, g.own id b → w'.heap[b]? = w.heap[b]?) → (∀ b, g'.own id b ↔ g.own id b) → g'.cur id = g.cur id → π.it g w id τ l → π.it g' w' id τ l
  bd : ∀ {w w' : World} {b : Nat} {v : Value} {s : List UInt8}, w'.heap[b]? = w.heap[b]? → (∀ k, v.ownBlock = some k → w'.heap[k]? = w.heap[k]?) → π.bd w b v s → π.bd w' b v s
  bdc : ∀ {w : World} {b : Nat} {v : Value} {s : List UInt8}, π.bd w b v s → ∀ i, i = b ∨ v.ownBlock = some i → ¬ NoCells w i
/-- The world bears the objects. Blocks of 'fr' are as they were in w0. -/
structure Sim (π : Par) (fr : Nat → Prop) (w0 : World) (hw0 : Nat → Nat) (g : G) (O : Nat → AObj) (w : World) : Prop where
  os : w.os = w0.os
  tape : w.tape = w0.tape
  output : w.output = w0.output
  size : w0.heap.size ≤ w.heap.size
  frl : ∀ b, fr b → b < w0.heap.size
  frame : ∀ b, fr b → w.heap[b]? = w0.heap[b]? ∧ g.hw b = hw0 b
  hwz : ∀ b, NoCells w b → g.hw b = 0
  obj : ∀ id, ObjOk π g O w id
  own : ∀ id b, O id ≠ .none → g.own id b → ¬ fr b ∧ b < w.heap.size
  disj : ∀ id id' b, O id ≠ .none → O id' ≠ .none → g.own id b → g.own id' b → id = id'
  ownc : ∀ id b, O id ≠ .none → g.own id b → ¬ NoCells w b
section
variable {π : Par} {fr : Nat → Prop} {w0 : World} {hw0 : Nat → Nat} {g g' : G} {O O' : Nat → AObj} {w w' : World}
/-- An object that isn't touched stays as it is. -/
theorem ObjOk.keep (hπ : π.Ok) (ha : Adv g O w g' O' w') {id : Nat} (h : ObjOk π g O w id) (hO : O' id = O id) (hl : g'.loc id = g.loc id) (hc : g'.cur id = g.cur id) (ho : ∀ b, g'.own id b ↔ g.own id b)
    (hb : ∀ b, g.own id b → w'.heap[b]? = w.heap[b]? ∧ g'.hw b = g.hw b) : ObjOk π g' O' w' id := by
  unfold ObjOk at h ⊢
  rw [hO]
  cases hO' : O id with
  | none => trivial
  | box cs =>
    rw [hO'] at h
    obtain ⟨h1, h2, arr, T, h3, h4, h5⟩ := h
    have hb' := hb _ ((h1 _).2 rfl)
    exact ⟨fun b => by rw [ho, h1, hl], by rw [hl, hb'.2]; exact h2, arr, T, by rw [hl, hb'.1]; exact h3, h4.mono (fun _ _ => ARel.mono ha), h5⟩
  | vec e k =>
    rw [hO'] at h
    obtain ⟨A, n, c, h1, h2, h3⟩ := h
    refine ⟨A, n, c, by rw [hc]; exact h1, h2, ?_⟩
    rcases h3 with ⟨h3, h4⟩ | ⟨arr, T, h3, h4, h5, h6, h7⟩
    · exact .inl ⟨h3, fun b hb => h4 b ((ho b).1 hb)⟩
    · have hb' := hb _ ((h7 _).2 rfl)
      exact .inr ⟨arr, T, by rw [hl]; exact h3, by rw [hl, hb'.1]; exact h4, h5, by rw [hl, hb'.2]; exact h6, fun b => by rw [ho, h7, hl]⟩
  | bld s =>
    rw [hO'] at h
    obtain ⟨h1, h2, h3, h4, h5⟩ := h
    refine ⟨by rw [hl, (hb _ h2).2]; exact h1, by rw [hl]; exact (ho _).2 h2, fun b h => by rw [(hb b ((ho b).1 h)).2]; exact h3 b ((ho b).1 h), fun b h => (ho b).2 (h4 b (by rw [← hc]; exact h)), ?_⟩
    rw [hl, hc]
    exact hπ.bd (hb _ h2).1 (fun k hk => (hb k (h4 k hk)).1) h5
  | iter τ l =>
    rw [hO'] at h
    exact ⟨fun b hh => by rw [(hb b ((ho b).1 hh)).2]; exact h.1 b ((ho b).1 hh), hπ.it ha.hw ha.cell (fun b hh => (hb b hh).1) ho hc h.2⟩
/-- A step that touches the objects of T alone. -/
theorem Sim.step (hπ : π.Ok) (h : Sim π fr w0 hw0 g O w) (ha : Adv g O w g' O' w') (T : Nat → Prop)
    (hos : w'.os = w.os ∧ w'.tape = w.tape ∧ w'.output = w.output) (hsz : w.heap.size ≤ w'.heap.size)
    (hblk : ∀ b, b < w.heap.size → (∀ id, T id → O id ≠ .none → ¬ g.own id b) → w'.heap[b]? = w.heap[b]? ∧ g'.hw b = g.hw b)
    (hid : ∀ id, ¬ T id → O' id = O id ∧ g'.loc id = g.loc id ∧ g'.cur id = g.cur id ∧ ∀ b, g'.own id b ↔ g.own id b)
    (hz : ∀ b, NoCells w' b → g'.hw b = 0)
    (hT : ∀ id, T id → O' id ≠ .none → ObjOk π g' O' w' id ∧ ∀ b, g'.own id b → (w.heap.size ≤ b ∨ (O id ≠ .none ∧ g.own id b)) ∧ ¬ NoCells w' b)
    (hd : ∀ id id' b, T id → T id' → O' id ≠ .none → O' id' ≠ .none → g'.own id b → g'.own id' b → id = id') : Sim π fr w0 hw0 g' O' w' := by
  have hfr : ∀ b, fr b → w'.heap[b]? = w.heap[b]? ∧ g'.hw b = g.hw b := fun b hb =>
    hblk b (Nat.lt_of_lt_of_le (h.frl b hb) h.size) (fun id _ hn ho => (h.own id b hn ho).1 hb)
  have back : ∀ id, ¬ T id → O' id ≠ .none → O id ≠ .none := fun id ht hn => by rw [← (hid id ht).1]; exact hn
  refine ⟨hos.1.trans h.os, hos.2.1.trans h.tape, hos.2.2.trans h.output, Nat.le_trans h.size hsz, h.frl, fun b hb => ⟨(hfr b hb).1.trans (h.frame b hb).1, (hfr b hb).2.trans (h.frame b hb).2⟩, hz, fun id => ?_, fun id b hn ho => ?_, fun id id' b hn hn' ho ho' => ?_, fun id b hn ho => ?_⟩
  · by_cases ht : T id
    · by_cases hn : O' id = .none
      · unfold ObjOk; rw [hn]; trivial
      · exact (hT id ht hn).1
    · obtain ⟨h1, h2, h3, h4⟩ := hid id ht
      by_cases hn : O id = .none
      · unfold ObjOk; rw [h1, hn]; trivial
      · refine ObjOk.keep hπ ha (h.obj id) h1 h2 h3 h4 fun b hb => hblk b (h.own id b hn hb).2 fun id' ht' hn' ho' => ?_
        have := h.disj id id' b hn hn' hb ho'
        subst this
        exact ht ht'
  · by_cases ht : T id
    · obtain ⟨h1, h2⟩ := (hT id ht hn).2 b ho
      refine ⟨?_, Nat.lt_of_not_le fun hle => h2 (.size hle)⟩
      rcases h1 with h1 | ⟨h1, h3⟩
      · intro hf
        have := h.frl b hf
        have := h.size
        omega
      · exact (h.own id b h1 h3).1
    · have := h.own id b (back id ht hn) ((hid id ht).2.2.2 b |>.1 ho)
      exact ⟨this.1, Nat.lt_of_lt_of_le this.2 hsz⟩
  · by_cases ht : T id
    · by_cases ht' : T id'
      · exact hd id id' b ht ht' hn hn' ho ho'
      · have o' := ((hid id' ht').2.2.2 b).1 ho'
        have n' := back id' ht' hn'
        have l' := (h.own id' b n' o').2
        rcases ((hT id ht hn).2 b ho).1 with h1 | ⟨h1, h3⟩
        · omega
        · exact h.disj id id' b h1 n' h3 o'
    · have o1 := ((hid id ht).2.2.2 b).1 ho
      have n1 := back id ht hn
      have l1 := (h.own id b n1 o1).2
      by_cases ht' : T id'
      · rcases ((hT id' ht' hn').2 b ho').1 with h1 | ⟨h1, h3⟩
        · omega
        · exact h.disj id id' b n1 h1 o1 h3
      · exact h.disj id id' b n1 (back id' ht' hn') o1 (((hid id' ht').2.2.2 b).1 ho')
  · by_cases ht : T id
    · exact ((hT id ht hn).2 b ho).2
    · have o1 := ((hid id ht).2.2.2 b).1 ho
      have n1 := back id ht hn
      exact fun hnc => h.ownc id b n1 o1 (hnc.congr (hblk b (h.own id b n1 o1).2 fun id' ht' hn' ho' => ht (h.disj id id' b n1 hn' o1 ho' ▸ ht')).1)
end
end Go.Proofs.Ytgmjbnglenmlpaa.Ab
end
section
/- The abstract machine: regions, in the order of the text and in any order. No program in sight. -/
set_option linter.unusedVariables false
namespace Go.Proofs.Ytgmjbnglenmlpaa.Ab
open Go Go.RowKit
/-- What an operation does: what must hold; a call's result, if any; the value and the objects that it leaves; which objects it writes, which it reads. -/
structure Out where
  conds : List Bool
  τ : DTy
  val : Option τ.den
  wrap : τ.den → AVal × (Nat → AObj)
  ws : List Nat
  rs : List Nat
def applyU (ws : List Nat) (u O : Nat → AObj) : Nat → AObj := fun i => cond (ws.elem i) (u i) (O i)
def ofCell : Value → AVal
  | .int k n => .d (.int k) n
  | .bool b => .d .bool b
  | .string s => .d .str s.data.toList
  | .slice none 0 0 => .nils
  | .pointer none => .nilp
  | _ => .junk
def ofLit : Value → AVal
  | .agg cs => .agg (cs.toList.map ofCell)
  | v => ofCell v
def St.eval (σ : St) : Operand → AVal
  | .tmp t => σ.tmps t
  | .const v => ofLit v
  | .global _ => .junk
  | .func f => .fn f []
def putO {α : Type} (f : Nat → α) (d : Option Nat) (v : α) : Nat → α :=
  match d with
  | some t => put f t v
  | none => f
def St.after (σ : St) (o : Oper) (out : Out) (r : out.τ.den) : St := ⟨putO σ.tmps o.dst (out.wrap r).1, applyU out.ws (out.wrap r).2 σ.objs⟩
def St.skip (σ : St) (o : Oper) : St := ⟨putO σ.tmps o.dst .und, σ.objs⟩
def yieldA (ops : Array Oper) (σ : St) (j : Nat) : Option (Option Bool) :=
  match (ops[j]?).bind (·.dst) with
  | none => some none
  | some t => match σ.tmps t with
    | .d .bool b => some (some b)
    | .und => some none
    | _ => none
/-- Is an operation wanted? none: it can't be told. -/
def wantedA (ops : Array Oper) (o : Oper) (σ : St) : Option Bool :=
  match o.guard with
  | none => some true
  | some (j, want) => match yieldA ops σ j with
    | some (some b) => some (cond want b (!b))
    | some none => some false
    | none => none
abbrev OpD := Oper → (Operand → AVal) → (Nat → AObj) → Option Out
/-- An operation's step, and what it touches. -/
inductive Step (D : OpD) (ops : Array Oper) (o : Oper) (σ : St) : St → List Nat → List Nat → Prop
  | go {out : Out} {r : out.τ.den} (hw : wantedA ops o σ = some true) (h : D o σ.eval σ.objs = some out) (hc : ∀ b, b ∈ out.conds → b = true) (hv : out.val = some r) : Step D ops o σ (σ.after o out r) out.ws out.rs
  | no (hw : wantedA ops o σ = some false) : Step D ops o σ (σ.skip o) [] []
inductive Run (D : OpD) (ops : Array Oper) : List Oper → St → St → List (List Nat × List Nat) → Prop
  | nil {σ : St} : Run D ops [] σ σ []
  | cons {o : Oper} {l : List Oper} {σ σ1 σ2 : St} {ws rs : List Nat} {log : List (List Nat × List Nat)} (h : Step D ops o σ σ1 ws rs) (k : Run D ops l σ1 σ2 log) : Run D ops (o :: l) σ σ2 ((ws, rs) :: log)
def chks {α : Type} : List Bool → Option α → Option α
  | [], x => x
  | b :: l, x => cond b (chks l x) none
theorem chks_some {α : Type} {l : List Bool} {x : Option α} {r : α} (h : chks l x = some r) : (∀ b, b ∈ l → b = true) ∧ x = some r := by
  induction l with
  | nil => exact ⟨fun b hb => (by cases hb), h⟩
  | cons b l ih =>
    unfold chks at h
    cases b with
    | false => cases h
    | true => exact ⟨fun b hb => by cases hb with
      | head => rfl
      | tail _ hb => exact (ih h).1 b hb, (ih h).2⟩
/-- The slot that an operation's guard asks. -/
def guardSlot (ops : Array Oper) (o : Oper) : Option Nat := match o.guard with
  | some (j, _) => (ops[j]?).bind (·.dst)
  | none => none
def setO (σ : St) (t : Option Nat) (b : Bool) : St := match t with
  | some t => ⟨put σ.tmps t (.d .bool b), σ.objs⟩
  | none => σ
def guardWant (o : Oper) : Bool := match o.guard with
  | some (_, w) => w
  | none => true
/-- How a guard stands: a bool that is known or not, or nothing. -/
inductive GA where
  | yes | no | ask (b : Bool) | bad
def guardA (ops : Array Oper) (o : Oper) (σ : St) : GA := match o.guard with
  | none => .yes
  | some (j, _) => match (ops[j]?).bind (·.dst) with
    | none => .no
    | some t => match σ.tmps t with
      | .d .bool b => .ask b
      | .und => .no
      | _ => .bad
/-- The operations in the order of the text. -/
def execOps {α : Type} (D : OpD) (ops : Array Oper) (K : St → List (List Nat × List Nat) → Option α) : List Oper → St → List (List Nat × List Nat) → Option α
  | [], σ, log => K σ log
  | o :: l, σ, log =>
    let go (σ : St) : Option α := match D o σ.eval σ.objs with
      | none => none
      | some out => chks out.conds (out.val.bind fun r => execOps D ops K l (σ.after o out r) (log ++ [(out.ws, out.rs)]))
    let no (σ : St) : Option α := execOps D ops K l (σ.skip o) (log ++ [([], [])])
    match guardA ops o σ with
    | .yes => go σ
    | .no => no σ
    | .ask b => cond b (cond (guardWant o) (go (setO σ (guardSlot ops o) true)) (no (setO σ (guardSlot ops o) true)))
        (cond (guardWant o) (no (setO σ (guardSlot ops o) false)) (go (setO σ (guardSlot ops o) false)))
    | .bad => none
theorem setO_same {ops : Array Oper} {o : Oper} {σ : St} {b : Bool} (h : guardA ops o σ = .ask b) : setO σ (guardSlot ops o) b = σ ∧ wantedA ops o σ = some (cond (guardWant o) b (!b)) := by
  unfold guardA at h
  unfold guardSlot guardWant wantedA yieldA setO
  cases hg : o.guard with
  | none => rw [hg] at h; cases h
  | some p =>
    obtain ⟨j, w⟩ := p
    rw [hg] at h
    dsimp only at h ⊢
    cases ht : (ops[j]?).bind (·.dst) with
    | none => rw [ht] at h; cases h
    | some t =>
      rw [ht] at h
      dsimp only at h ⊢
      split at h
      · rename_i b' hb
        cases h
        refine ⟨?_, rfl⟩
        have : put σ.tmps t (.d .bool b) = σ.tmps := by
          funext i
          by_cases hi : i = t
          · subst hi; rw [put_same, hb]
          · rw [put_ne _ _ hi]
        rw [this]
      · cases h
      · cases h
theorem guardA_yes {ops : Array Oper} {o : Oper} {σ : St} (h : guardA ops o σ = .yes) : wantedA ops o σ = some true := by
  unfold guardA at h
  unfold wantedA
  cases hg : o.guard with
  | none => rfl
  | some p =>
    obtain ⟨j, w⟩ := p
    rw [hg] at h
    dsimp only at h
    split at h
    · cases h
    · split at h <;> cases h
theorem guardA_no {ops : Array Oper} {o : Oper} {σ : St} (h : guardA ops o σ = .no) : wantedA ops o σ = some false := by
  unfold guardA at h
  unfold wantedA yieldA
  cases hg : o.guard with
  | none => rw [hg] at h; cases h
  | some p =>
    obtain ⟨j, w⟩ := p
    rw [hg] at h
    dsimp only at h ⊢
    cases ht : (ops[j]?).bind (·.dst) with
    | none => rfl
    | some t =>
      rw [ht] at h
      dsimp only at h ⊢
      split at h
      · cases h
      · rfl
      · cases h
theorem execOps_run {α : Type} {D : OpD} {ops : Array Oper} {K : St → List (List Nat × List Nat) → Option α} {r : α} : ∀ (l : List Oper) (σ : St) (log : List (List Nat × List Nat)),
    execOps D ops K l σ log = some r → ∃ σ' log', Run D ops l σ σ' log' ∧ K σ' (log ++ log') = some r := by
  intro l
  induction l with
  | nil => intro σ log h; exact ⟨σ, [], .nil, by rw [List.append_nil]; exact h⟩
  | cons o l ih =>
    intro σ log h
    have go : wantedA ops o σ = some true → (match D o σ.eval σ.objs with
        | none => none
        | some out => chks out.conds (out.val.bind fun r => execOps D ops K l (σ.after o out r) (log ++ [(out.ws, out.rs)]))) = some r → ∃ σ' log', Run D ops (o :: l) σ σ' log' ∧ K σ' (log ++ log') = some r := by
      intro hw h
      cases hd : D o σ.eval σ.objs with
      | none => rw [hd] at h; cases h
      | some out =>
        rw [hd] at h
        obtain ⟨h1, h2⟩ := chks_some h
        cases hv : out.val with
        | none => rw [hv] at h2; cases h2
        | some x =>
          rw [hv] at h2
          obtain ⟨σ', log', h3, h4⟩ := ih _ _ h2
          exact ⟨σ', (out.ws, out.rs) :: log', .cons (.go hw hd h1 hv) h3, by rw [List.append_assoc] at h4; exact h4⟩
    have no : wantedA ops o σ = some false → execOps D ops K l (σ.skip o) (log ++ [([], [])]) = some r → ∃ σ' log', Run D ops (o :: l) σ σ' log' ∧ K σ' (log ++ log') = some r := by
      intro hw h
      obtain ⟨σ', log', h1, h2⟩ := ih _ _ h
      exact ⟨σ', ([], []) :: log', .cons (.no hw) h1, by rw [List.append_assoc] at h2; exact h2⟩
    unfold execOps at h
    dsimp only at h
    cases hg : guardA ops o σ with
    | bad => rw [hg] at h; cases h
    | yes => rw [hg] at h; exact go (guardA_yes hg) h
    | no => rw [hg] at h; exact no (guardA_no hg) h
    | ask b =>
      rw [hg] at h
      obtain ⟨e1, e2⟩ := setO_same hg
      cases b with
      | true =>
        dsimp only [cond] at h
        rw [e1] at h
        cases hw : guardWant o with
        | true => rw [hw] at h e2; exact go e2 h
        | false => rw [hw] at h e2; exact no e2 h
      | false =>
        dsimp only [cond] at h
        rw [e1] at h
        cases hw : guardWant o with
        | true => rw [hw] at h e2; exact no e2 h
        | false => rw [hw] at h e2; exact go e2 h
/-! ### Any order -/
def noConf (x y : List Nat × List Nat) : Bool := (x.1.all fun i => !(y.1.elem i) && !(y.2.elem i)) && (y.1.all fun i => !(x.1.elem i) && !(x.2.elem i))
theorem noConf_spec {x y : List Nat × List Nat} (h : noConf x y = true) : (∀ i, i ∈ x.1 → i ∉ y.1 ∧ i ∉ y.2) ∧ (∀ i, i ∈ y.1 → i ∉ x.1 ∧ i ∉ x.2) := by
  unfold noConf at h
  simp only [Bool.and_eq_true, List.all_eq_true, Bool.not_eq_true', List.elem_eq_contains, List.contains_eq_mem, decide_eq_false_iff_not] at h
  exact h
/-- What is owed of D: it looks at its operands, and at the objects that it tells. -/
def OpD.Frame (D : OpD) : Prop := ∀ (o : Oper) (ρ ρ' : Operand → AVal) (O O' : Nat → AObj) (out : Out), D o ρ O = some out → (∀ x ∈ o.op.operands, ρ' x = ρ x) → (∀ i, i ∈ out.ws ∨ i ∈ out.rs → O' i = O i) → D o ρ' O' = some out
theorem applyU_other {ws : List Nat} {u O : Nat → AObj} {i : Nat} (h : i ∉ ws) : applyU ws u O i = O i := by
  unfold applyU
  rw [List.elem_eq_contains, List.contains_eq_mem, decide_eq_false h]
  rfl
theorem applyU_mem {ws : List Nat} {u O : Nat → AObj} {i : Nat} (h : i ∈ ws) : applyU ws u O i = u i := by
  unfold applyU
  rw [List.elem_eq_contains, List.contains_eq_mem, decide_eq_true h]
  rfl
theorem applyU_comm {ws ws' : List Nat} {u u' O : Nat → AObj} (h : ∀ i, i ∈ ws → i ∉ ws') : applyU ws u (applyU ws' u' O) = applyU ws' u' (applyU ws u O) := by
  funext i
  by_cases h1 : i ∈ ws
  · rw [applyU_mem h1, applyU_other (h i h1), applyU_mem h1]
  · rw [applyU_other h1]
    by_cases h2 : i ∈ ws'
    · rw [applyU_mem h2, applyU_mem h2]
    · rw [applyU_other h2, applyU_other h2, applyU_other h1]
theorem putO_comm {α : Type} (f : Nat → α) {x y : Option Nat} (v u : α) (h : ∀ d, x = some d → y ≠ some d) : putO (putO f x v) y u = putO (putO f y u) x v := by
  cases x with
  | none => rfl
  | some d =>
    cases y with
    | none => rfl
    | some e => exact put_comm f v u (fun he => h d rfl (by rw [he]))
theorem eval_putO {σ : St} {d : Option Nat} {v : AVal} {O : Nat → AObj} {x : Operand} (h : ∀ t, d = some t → x ≠ .tmp t) : (⟨putO σ.tmps d v, O⟩ : St).eval x = σ.eval x := by
  cases x with
  | tmp t =>
    cases d with
    | none => rfl
    | some e => exact put_ne _ _ (fun he => h e rfl (by rw [he]))
  | _ => rfl
theorem wantedA_putO {ops : Array Oper} {o : Oper} {σ : St} {d : Option Nat} {v : AVal} {O : Nat → AObj} (h : ∀ t, d = some t → t ∉ o.looksAt ops) : wantedA ops o ⟨putO σ.tmps d v, O⟩ = wantedA ops o σ := by
  unfold wantedA
  cases hg : o.guard with
  | none => rfl
  | some p =>
    obtain ⟨j, want⟩ := p
    have : yieldA ops ⟨putO σ.tmps d v, O⟩ j = yieldA ops σ j := by
      unfold yieldA
      cases ht : (ops[j]?).bind (·.dst) with
      | none => rfl
      | some t =>
        dsimp only
        have : putO σ.tmps d v t = σ.tmps t := by
          cases d with
          | none => rfl
          | some e => exact put_ne _ _ (fun he => h e rfl (by subst he; simp [Oper.looksAt, hg, ht]))
        rw [this]
    dsimp only
    rw [this]
/-- Two steps that have nothing to do with each other may be turned round. -/
theorem Step.comm {D : OpD} (hD : D.Frame) {ops : Array Oper} {x y : Oper} {σ σ1 σ2 : St} {wx rx wy ry : List Nat} (hx : Step D ops x σ σ1 wx rx) (hy : Step D ops y σ1 σ2 wy ry)
    (ha : x.apart ops y = true) (hn : noConf (wx, rx) (wy, ry) = true) : ∃ σ1', Step D ops y σ σ1' wy ry ∧ Step D ops x σ1' σ2 wx rx := by
  obtain ⟨h1, h2, h3⟩ := Oper.apart_spec ha
  obtain ⟨n1, n2⟩ := noConf_spec hn
  have opx : ∀ {z : Operand}, z ∈ x.op.operands → ∀ t, y.dst = some t → z ≠ .tmp t := fun hz t ht e => h3 t ht (by
    subst e
    exact List.mem_append_left _ (List.mem_filterMap.2 ⟨.tmp t, by simpa using hz, rfl⟩))
  have opy : ∀ {z : Operand}, z ∈ y.op.operands → ∀ t, x.dst = some t → z ≠ .tmp t := fun hz t ht e => h1 t ht (by
    subst e
    exact List.mem_append_left _ (List.mem_filterMap.2 ⟨.tmp t, by simpa using hz, rfl⟩))
  cases hx with
  | go xw xd xc xv =>
    rename_i ox rx
    cases hy with
    | go yw yd yc yv =>
      rename_i oy ry
      have e1 : wantedA ops y σ = some true := by rw [← yw]; exact (wantedA_putO h1).symm
      have e2 : D y σ.eval σ.objs = some oy := hD y _ _ _ _ oy yd (fun z hz => (eval_putO (opy hz)).symm) (fun i hi => by
        refine (applyU_other fun hm => ?_).symm
        rcases hi with hi | hi
        · exact (n1 i hm).1 hi
        · exact (n1 i hm).2 hi)
      refine ⟨_, .go e1 e2 yc yv, ?_⟩
      have e3 : wantedA ops x (σ.after y oy ry) = some true := by rw [← xw]; exact wantedA_putO h3
      have e4 : D x (σ.after y oy ry).eval (σ.after y oy ry).objs = some ox := hD x _ _ _ _ ox xd (fun z hz => eval_putO (opx hz)) (fun i hi => by
        refine applyU_other fun hm => ?_
        rcases hi with hi | hi
        · exact (n2 i hm).1 hi
        · exact (n2 i hm).2 hi)
      have e5 : (σ.after x ox rx).after y oy ry = (σ.after y oy ry).after x ox rx := by
        unfold St.after
        rw [putO_comm _ _ _ h2, applyU_comm (fun i hi hj => (n2 i hi).1 hj)]
      rw [e5]
      exact .go e3 e4 xc xv
    | no yw =>
      have e1 : wantedA ops y σ = some false := by rw [← yw]; exact (wantedA_putO h1).symm
      refine ⟨_, .no e1, ?_⟩
      have e3 : wantedA ops x (σ.skip y) = some true := by rw [← xw]; exact wantedA_putO h3
      have e4 : D x (σ.skip y).eval (σ.skip y).objs = some ox := hD x _ _ _ _ ox xd (fun z hz => eval_putO (opx hz)) (fun i hi => rfl)
      have e5 : (σ.after x ox rx).skip y = (σ.skip y).after x ox rx := by
        unfold St.after St.skip
        rw [putO_comm _ _ _ h2]
      rw [e5]
      exact .go e3 e4 xc xv
  | no xw =>
    cases hy with
    | go yw yd yc yv =>
      rename_i oy ry
      have e1 : wantedA ops y σ = some true := by rw [← yw]; exact (wantedA_putO h1).symm
      have e2 : D y σ.eval σ.objs = some oy := hD y _ _ _ _ oy yd (fun z hz => (eval_putO (opy hz)).symm) (fun i hi => rfl)
      refine ⟨_, .go e1 e2 yc yv, ?_⟩
      have e3 : wantedA ops x (σ.after y oy ry) = some false := by rw [← xw]; exact wantedA_putO h3
      have e5 : (σ.skip x).after y oy ry = (σ.after y oy ry).skip x := by
        unfold St.after St.skip
        rw [putO_comm _ _ _ h2]
      rw [e5]
      exact .no e3
    | no yw =>
      have e1 : wantedA ops y σ = some false := by rw [← yw]; exact (wantedA_putO h1).symm
      refine ⟨_, .no e1, ?_⟩
      have e3 : wantedA ops x (σ.skip y) = some false := by rw [← xw]; exact wantedA_putO h3
      have e5 : (σ.skip x).skip y = (σ.skip y).skip x := by
        unfold St.skip
        rw [putO_comm _ _ _ h2]
      rw [e5]
      exact .no e3
abbrev Tbl := Nat → List Nat × List Nat
/-- Whatever comes up next: it can be done, it touches what the table says; at the end: the state σ'. -/
def AnyA (D : OpD) (ops : Array Oper) (T : Tbl) (σ' : St) : Nat → Array Bool → St → Prop
  | 0, listed, σ => Region.ready .any ops listed = [] ∧ σ = σ'
  | f + 1, listed, σ => (Region.ready .any ops listed = [] → σ = σ') ∧
    ∀ i ∈ Region.ready .any ops listed, ∃ o σ1, ops[i]? = some o ∧ Step D ops o σ σ1 (T i).1 (T i).2 ∧ AnyA D ops T σ' f (listed.setIfInBounds i true) σ1
theorem AnyA.first {D : OpD} (hD : D.Frame) {ops : Array Oper} {T : Tbl} {σ' : St} {i : Nat} {o : Oper} (hi : ops[i]? = some o) (Inv : Array Bool → Prop)
    (hI : ∀ listed j, Inv listed → j ∈ Region.ready .any ops listed → Inv (listed.setIfInBounds j true))
    (hC : ∀ listed j y, Inv listed → i ∈ Region.ready .any ops listed → j ∈ Region.ready .any ops listed → ops[j]? = some y → j ≠ i → o.apart ops y = true ∧ noConf (T i) (T j) = true) :
    ∀ (f : Nat) (listed : Array Bool) (σ σ1 : St), Inv listed → i ∈ Region.ready .any ops listed → Step D ops o σ σ1 (T i).1 (T i).2 →
      AnyA D ops T σ' f (listed.setIfInBounds i true) σ1 → AnyA D ops T σ' (f + 1) listed σ := by
  intro f
  induction f with
  | zero =>
    intro listed σ σ1 _ hr hs H
    refine ⟨fun h => (by rw [h] at hr; cases hr), fun j hj => ?_⟩
    by_cases hji : j = i
    · subst hji; exact ⟨o, σ1, hi, hs, H⟩
    · have := ready_mono hj hji
      rw [H.1] at this
      cases this
  | succ f ih =>
    intro listed σ σ1 hin hr hs H
    refine ⟨fun h => (by rw [h] at hr; cases hr), fun j hj => ?_⟩
    by_cases hji : j = i
    · subst hji; exact ⟨o, σ1, hi, hs, H⟩
    · obtain ⟨y, σ2, hy, hsy, H2⟩ := H.2 j (ready_mono hj hji)
      obtain ⟨ha, hn⟩ := hC listed j y hin hr hj hy hji
      obtain ⟨σ1', s1, s2⟩ := Step.comm hD hs hsy ha hn
      refine ⟨y, σ1', hy, s1, ih _ _ _ (hI _ _ hin hj) (ready_mono hr (Ne.symm hji)) s2 ?_⟩
      rw [Array.setIfInBounds_comm _ _ hji]
      exact H2
/-- Must i be ahead of j? (so many steps are looked back) -/
def anc (ops : Array Oper) : Nat → Nat → Nat → Bool
  | 0, _, _ => false
  | f + 1, j, i => match ops[j]? with
    | some y => y.after.any fun e => Region.binds .any e && (Nat.beq e.on i || anc ops f e.on i)
    | none => false
def Closed (ops : Array Oper) (listed : Array Bool) : Prop := ∀ j y, ops[j]? = some y → listed.getD j false = true → ∀ e ∈ y.after, Region.binds .any e = true → listed.getD e.on false = true
theorem anc_listed {ops : Array Oper} {listed : Array Bool} (hc : Closed ops listed) : ∀ (f j i : Nat) (y : Oper), ops[j]? = some y → (∀ e ∈ y.after, Region.binds .any e = true → listed.getD e.on false = true) → anc ops f j i = true → listed.getD i false = true := by
  intro f
  induction f with
  | zero => intro j i y _ _ h; cases h
  | succ f ih =>
    intro j i y hy hl h
    unfold anc at h
    rw [hy] at h
    obtain ⟨e, he, hb⟩ := Array.any_eq_true'.1 h
    simp only [Bool.and_eq_true, Bool.or_eq_true] at hb
    have hle := hl e he hb.1
    rcases hb.2 with h1 | h1
    · rw [← Nat.eq_of_beq_eq_true h1]; exact hle
    · cases hz : ops[e.on]? with
      | none => cases f <;> simp [anc, hz] at h1
      | some z => exact ih e.on i z hz (hc _ _ hz hle) h1
def lexOk (ops : Array Oper) : Bool := (List.range ops.size).all fun j => match ops[j]? with
  | some y => y.after.all fun e => !Region.binds .any e || Nat.blt e.on j
  | none => true
def compat (ops : Array Oper) (log : List (List Nat × List Nat)) : Bool :=
  (List.range ops.size).all fun j => (List.range j).all fun i => match ops[i]?, ops[j]? with
    | some x, some y => (x.apart ops y && noConf (log.getD i ([], [])) (log.getD j ([], []))) || anc ops 8 j i
    | _, _ => true
theorem compat_spec {ops : Array Oper} {log : List (List Nat × List Nat)} (h : compat ops log = true) {i j : Nat} {x y : Oper} (hij : i < j) (hx : ops[i]? = some x) (hy : ops[j]? = some y) :
    (x.apart ops y = true ∧ noConf (log.getD i ([], [])) (log.getD j ([], [])) = true) ∨ anc ops 8 j i = true := by
  unfold compat at h
  rw [List.all_eq_true] at h
  have h1 := h j (List.mem_range.2 (Array.getElem?_eq_some_iff.1 hy).1)
  rw [List.all_eq_true] at h1
  have h2 := h1 i (List.mem_range.2 hij)
  rw [hx, hy] at h2
  simpa using h2
/-- All ahead of m are done. -/
def doneTo (n : Nat) : Nat → Array Bool
  | 0 => Array.replicate n false
  | m + 1 => (doneTo n m).setIfInBounds m true
theorem doneTo_size (n m : Nat) : (doneTo n m).size = n := by
  induction m with
  | zero => simp [doneTo]
  | succ m ih => simp [doneTo, ih]
theorem doneTo_get (n m : Nat) : ∀ (j : Nat), j < n → (doneTo n m)[j]? = some (decide (j < m)) := by
  induction m with
  | zero => intro j hj; simp [doneTo, hj]
  | succ m ih =>
    intro j hj
    unfold doneTo
    rw [Array.getElem?_setIfInBounds]
    by_cases h : m = j
    · subst h
      rw [if_pos rfl, if_pos (by rw [doneTo_size]; exact hj)]
      simp
    · rw [if_neg h, ih j hj]
      simp only [Option.some.injEq, decide_eq_decide]
      omega
theorem apart_symm {ops : Array Oper} {x y : Oper} (h : x.apart ops y = true) : y.apart ops x = true := by
  obtain ⟨h1, h2, h3⟩ := Oper.apart_spec h
  unfold Oper.apart
  rw [Bool.and_eq_true]
  constructor
  · cases hy : y.dst with
    | none => rfl
    | some d =>
      dsimp only
      rw [Bool.and_eq_true]
      refine ⟨?_, ?_⟩
      · simpa using h3 d hy
      · cases hx : x.dst with
        | none => rfl
        | some e =>
          have := h2 e hx
          rw [hy] at this
          simp only [bne_iff_ne, ne_eq, Option.some.injEq]
          intro he
          exact this (by rw [he])
  · cases hx : x.dst with
    | none => rfl
    | some d => dsimp only; simpa using h1 d hx
theorem noConf_symm {x y : List Nat × List Nat} (h : noConf x y = true) : noConf y x = true := by
  unfold noConf at h ⊢
  rw [Bool.and_eq_true] at h ⊢
  exact ⟨h.2, h.1⟩
theorem Run.get {D : OpD} {ops : Array Oper} {l : List Oper} {σ σ' : St} {log : List (List Nat × List Nat)} (h : Run D ops l σ σ' log) : log.length = l.length := by
  induction h with
  | nil => rfl
  | cons _ _ ih => simp [ih]
theorem any_of_run {D : OpD} (hD : D.Frame) {ops : Array Oper} {σ' : St} {full : List (List Nat × List Nat)} (hl : lexOk ops = true) (hc : compat ops full = true) :
    ∀ (k m : Nat) (σ : St) (log : List (List Nat × List Nat)), m + k = ops.size → full.drop m = log → Run D ops (ops.toList.drop m) σ σ' log → AnyA D ops (fun i => full.getD i ([], [])) σ' k (doneTo ops.size m) σ := by
  intro k
  induction k with
  | zero =>
    intro m σ log hm _ hr
    have : ops.toList.drop m = [] := List.drop_eq_nil_of_le (by simp; omega)
    rw [this] at hr
    cases hr
    refine ⟨?_, rfl⟩
    cases hrd : Region.ready .any ops (doneTo ops.size m) with
    | nil => rfl
    | cons j _ =>
      have hj : j ∈ Region.ready .any ops (doneTo ops.size m) := by rw [hrd]; exact List.mem_cons_self
      obtain ⟨h0, o, ho, _⟩ := mem_ready.1 hj
      have hlt := (Array.getElem?_eq_some_iff.1 ho).1
      have := doneTo_get ops.size m j hlt
      rw [Array.getD_eq_getD_getElem?, this] at h0
      simp at h0
      omega
  | succ k ih =>
    intro m σ log hm hlog hr
    have hlt : m < ops.size := by omega
    have hdrop : ops.toList.drop m = ops[m] :: ops.toList.drop (m + 1) := by
      rw [List.drop_eq_getElem_cons (by simpa using hlt)]
      simp
    rw [hdrop] at hr
    cases hr with
    | cons hs hk =>
      rename_i σ1 ws rs log'
      have hfm : full.getD m ([], []) = (ws, rs) := by
        rw [List.getD_eq_getElem?_getD]
        have := congrArg (fun l => l[0]?) hlog
        simp at this
        rw [this]
        rfl
      have hlog' : full.drop (m + 1) = log' := by
        have := congrArg List.tail hlog
        simpa using this
      have hmm : ops[m]? = some ops[m] := Array.getElem?_eq_getElem hlt
      have hpre : ∀ e ∈ (ops[m]).after, Region.binds .any e = true → e.on < m := by
        intro e he hb
        unfold lexOk at hl
        rw [List.all_eq_true] at hl
        have h1 := hl m (List.mem_range.2 hlt)
        rw [hmm] at h1
        have h2 := Array.all_eq_true_iff_forall_mem.1 h1 e he
        rw [hb] at h2
        simpa using h2
      have hnext := ih (m + 1) σ1 log' (by omega) hlog' hk
      have hgetm : (doneTo ops.size m)[m]? = some false := by rw [doneTo_get _ _ _ hlt]; simp
      refine AnyA.first hD (i := m) (o := ops[m]) hmm (fun listed => Closed ops listed ∧ listed.size = ops.size ∧ ∀ j, j < m → listed.getD j false = true) ?_ ?_ k (doneTo ops.size m) σ σ1 ?_ ?_ (by show Step D ops _ σ σ1 (full.getD m ([], [])).1 (full.getD m ([], [])).2; rw [hfm]; exact hs) hnext
      · rintro listed j ⟨h1, h2, h3⟩ hj
        obtain ⟨hun, o, ho, hall⟩ := mem_ready.1 hj
        refine ⟨fun i y hy hi e he hb => ?_, by simp [h2], fun i hi => getD_set_true (h3 i hi)⟩
        by_cases hij : j = i
        · subst hij
          rw [ho] at hy
          cases hy
          exact getD_set_true (hall e he hb)
        · rw [getD_set_ne false hij] at hi
          exact getD_set_true (h1 i y hy hi e he hb)
      · rintro listed j y ⟨h1, h2, h3⟩ hi hj hy hne
        obtain ⟨hiun, _, _, _⟩ := mem_ready.1 hi
        obtain ⟨hjun, o', ho', hall⟩ := mem_ready.1 hj
        rw [hy] at ho'
        cases ho'
        have hjlt := (Array.getElem?_eq_some_iff.1 hy).1
        have hjm : m < j := by
          rcases Nat.lt_trichotomy j m with h | h | h
          · have h4 := h3 j h
            rw [Array.getD_eq_getD_getElem?] at h4 hjun
            rw [Array.getElem?_eq_getElem (by omega)] at h4 hjun
            simp at h4 hjun
            rw [hjun] at h4
            cases h4
          · exact absurd h hne
          · exact h
        rcases compat_spec hc hjm hmm hy with h | h
        · exact h
        · have h5 := anc_listed h1 8 j m y hy hall h
          rw [Array.getD_eq_getD_getElem?, Array.getElem?_eq_getElem (by omega)] at h5 hiun
          simp at h5 hiun
          rw [hiun] at h5
          cases h5
      · refine ⟨fun i y hy hi e he hb => ?_, doneTo_size _ _, fun j hj => ?_⟩
        · have hil := (Array.getElem?_eq_some_iff.1 hy).1
          rw [Array.getD_eq_getD_getElem?, doneTo_get _ _ _ hil] at hi
          simp at hi
          unfold lexOk at hl
          rw [List.all_eq_true] at hl
          have h1 := hl i (List.mem_range.2 hil)
          rw [hy] at h1
          have h2 := Array.all_eq_true_iff_forall_mem.1 h1 e he
          rw [hb] at h2
          have h3 : e.on < i := by simpa using h2
          rw [Array.getD_eq_getD_getElem?, doneTo_get _ _ _ (by omega)]
          simp
          omega
        · rw [Array.getD_eq_getD_getElem?, doneTo_get _ _ _ (by omega)]
          simpa using hj
      · refine mem_ready.2 ⟨by rw [Array.getD_eq_getD_getElem?, hgetm]; rfl, _, hmm, fun e he hb => ?_⟩
        have := hpre e he hb
        rw [Array.getD_eq_getD_getElem?, doneTo_get _ _ _ (by omega)]
        simpa using this
end Go.Proofs.Ytgmjbnglenmlpaa.Ab
end
section
/- The abstract machine: what each operation does. No program in sight: the types come by a table. -/
set_option linter.unusedVariables false
namespace Go.Proofs.Ytgmjbnglenmlpaa.Ab
open Go Go.RowKit
inductive TK where
  | int (k : IntKind) | bool | str | slice (e : Nat) | struct (fs : List (Nat × Nat)) | ptr (e : Nat) | map (k v : Nat) | func | other
structure TyRow where
  kind : TK
  size : Nat
  bytes : Nat
  dty : Option DTy
  zero : List AVal
  eq : Bool
def TK.agg : TK → Bool
  | .struct _ => true
  | _ => false
structure Env where
  ty : Nat → Option TyRow
  bty : Nat
  call : Nat → List AVal → (Nat → AObj) → Nat → Option Out
def ifB {α : Type} (b : Bool) (x : Option α) : Option α := cond b x none
def ifO (b : Bool) (x : Option Out) : Option Out := cond b x none
def retV (v : AVal) : Option Out := some ⟨[], .unit, some (), fun _ => (v, fun _ => .none), [], []⟩
def retC (cs : List Bool) (v : AVal) : Option Out := some ⟨cs, .unit, some (), fun _ => (v, fun _ => .none), [], []⟩
/-- A value, read from an object. -/
def retR (id : Nat) (v : AVal) : Option Out := some ⟨[], .unit, some (), fun _ => (v, fun _ => .none), [], [id]⟩
/-- A value, and one object written. -/
def retW (cs : List Bool) (v : AVal) (id : Nat) (o : AObj) : Option Out := some ⟨cs, .unit, some (), fun _ => (v, fun _ => o), [id], []⟩
/-- The field number n of a struct. -/
def projA (mk : (τ : DTy) → τ.den → AVal) : Nat → (τ : DTy) → τ.den → Option AVal
  | 0, .prod a _, x => some (mk a x.1)
  | n + 1, .prod _ b, x => projA mk n b x.2
  | _, _, _ => none
/-- The field's place, and its type. -/
def projT : Nat → DTy → Option (Nat × DTy)
  | 0, .prod a _ => some (0, a)
  | n + 1, .prod a b => (projT n b).map fun p => (a.size + p.1, p.2)
  | _, _ => none
def TK.elem : TK → Option Nat
  | .slice e => some e
  | _ => none
/-- A slice type's element: its row, its type. -/
def elemOf (E : Env) (t : Nat) : Option (Nat × TyRow × DTy) :=
  (E.ty t).bind fun r => r.kind.elem.bind fun e => (E.ty e).bind fun q => q.dty.map fun τ => (e, q, τ)
def intOfA : AVal → Option Int
  | .d (.int _) n => some n
  | _ => none
def bits2 (op : BinOp) (k : IntKind) (x y : Int) : Option Int :=
  match op with
  | .and => some (k.wrap (BitVec.ofInt k.bits x &&& BitVec.ofInt k.bits y).toNat)
  | .or => some (k.wrap (BitVec.ofInt k.bits x ||| BitVec.ofInt k.bits y).toNat)
  | .xor => some (k.wrap (BitVec.ofInt k.bits x ^^^ BitVec.ofInt k.bits y).toNat)
  | .andNot => some (k.wrap (BitVec.ofInt k.bits x &&& ~~~BitVec.ofInt k.bits y).toNat)
  | _ => none
def intA (op : BinOp) (k : IntKind) (a b : Int) : Option Out :=
  match op with
  | .add => retV (.d (.int k) (k.wrap (a + b)))
  | .sub => retV (.d (.int k) (k.wrap (a - b)))
  | .mul => retV (.d (.int k) (k.wrap (a * b)))
  | .quo => retC [!decide (b = 0)] (.d (.int k) (k.wrap (a.tdiv b)))
  | .rem => retC [!decide (b = 0)] (.d (.int k) (a.tmod b))
  | .eql => retV (.d .bool (decide (a = b)))
  | .neq => retV (.d .bool (!decide (a = b)))
  | .lss => retV (.d .bool (decide (a < b)))
  | .leq => retV (.d .bool (decide (a ≤ b)))
  | .gtr => retV (.d .bool (decide (b < a)))
  | .geq => retV (.d .bool (decide (b ≤ a)))
  | op => (bits2 op k a b).bind fun n => retV (.d (.int k) n)
/-- Texts of less than 2^60 bytes may be joined. -/
def catOk (s t : List UInt8) : Bool := decide (s.length + t.length < 1152921504606846976)
def strA (op : BinOp) (s t : List UInt8) : Option Out :=
  match op with
  | .add => retC [catOk s t] (.d .str (s ++ t))
  | .eql => retV (.d .bool (decide (s = t)))
  | .neq => retV (.d .bool (!decide (s = t)))
  | .lss => retV (.d .bool (Op.bytesLess s t))
  | .leq => retV (.d .bool (Op.bytesLess s t || decide (s = t)))
  | .gtr => retV (.d .bool (!(Op.bytesLess s t || decide (s = t))))
  | .geq => retV (.d .bool (!Op.bytesLess s t))
  | _ => none
def TK.isBool : TK → Bool
  | .bool => true
  | _ => false
def boolA (op : BinOp) (a b : Bool) : Option Out :=
  match op with
  | .eql => retV (.d .bool (a == b))
  | .neq => retV (.d .bool (!(a == b)))
  | _ => none
def shA (op : BinOp) (k : IntKind) (a b : Int) : Option Out :=
  match op with
  | .shl => retC [decide (0 ≤ b)] (.d (.int k) (k.wrap (a * 2 ^ min b.toNat k.bits)))
  | .shr => retC [decide (0 ≤ b)] (.d (.int k) (a.fdiv (2 ^ min b.toNat k.bits)))
  | _ => none
/-- Are data the same, cell by cell? -/
def eqD : (τ : DTy) → τ.den → τ.den → Bool
  | .int _, x, y => decide (x = y)
  | .bool, x, y => x == y
  | .str, x, y => decide (x = y)
  | .prod a b, x, y => eqD a x.1 y.1 && eqD b x.2 y.2
  | .unit, _, _ => true
  | .slice _, _, _ => false
def eqA (E : Env) (op : BinOp) (t : Nat) (τ : DTy) (x : τ.den) (τ' : DTy) (y : τ'.den) : Option Out :=
  (E.ty t).bind fun r => ifO (r.eq && decide (r.dty = some τ)) ((castD τ' τ y).bind fun (y : τ.den) => match op with
    | .eql => retV (.d .bool (eqD τ x y))
    | .neq => retV (.d .bool (!eqD τ x y))
    | _ => none)
def BinOp.isSh : BinOp → Bool
  | .shl => true
  | .shr => true
  | _ => false
def binA (E : Env) (op : BinOp) (t : Nat) (x y : AVal) : Option Out :=
  match x, y with
  | .d (.int k) a, .d (.int k') b => cond (BinOp.isSh op) (shA op k a b) (ifO (decide (k = k')) (intA op k a b))
  | .d .str s, .d .str u => strA op s u
  | .d .bool a, .d .bool b => (E.ty t).bind fun r => ifO r.kind.isBool (boolA op a b)
  | .d τ x, .d τ' y => eqA E op t τ x τ' y
  | _, _ => none
def unA (op : UnOp) (x : AVal) : Option Out :=
  match op, x with
  | .not, .d .bool b => retV (.d .bool (!b))
  | .neg, .d (.int k) n => retV (.d (.int k) (k.wrap (0 - n)))
  | _, _ => none
def TK.isU8 : TK → Bool
  | .int .u8 => true
  | _ => false
def TK.isStr : TK → Bool
  | .str => true
  | _ => false
def TK.int? : TK → Option IntKind
  | .int k => some k
  | _ => none
/-- The text of bytes. -/
def textOf (l : List Int) : List UInt8 := l.map fun n => UInt8.ofNat n.toNat
def convA (E : Env) (s t : Nat) (x : AVal) : Option Out :=
  (E.ty s).bind fun a => (E.ty t).bind fun b => match x with
    | .d (.int _) n => b.kind.int?.bind fun k => retV (.d (.int k) (k.wrap n))
    | .d .str l => ifO (a.kind.isStr && b.kind.isStr) (retV (.d .str l))
    | v => ifO b.kind.isStr ((elemOf E s).bind fun p => ifO p.2.1.kind.isU8 ((as (.slice (.int .u8)) v).bind fun l => retV (.d .str (textOf l))))
/-- How many elements may stand in a slice of the machine's. -/
def growOk (n m bytes : Nat) : Bool := decide ((n + m) * bytes ≤ 140737488355328) && decide (n + m < 4611686018427387904)
def replaceAt {α : Type} (l : List α) (o : Nat) (cs : List α) : List α := l.take o ++ cs ++ l.drop (o + cs.length)
def fillA (place : Nat → Option (Nat × Nat)) (cells : List AVal) : List (Nat × AVal) → Option (List AVal)
  | [] => some cells
  | (i, v) :: r => (place i).bind fun p => v.cells.bind fun cs => ifB (Nat.beq cs.length p.2 && Nat.ble (p.1 + p.2) cells.length) (fillA place (replaceAt cells p.1 cs) r)
/-- Cells as one value, a datum if they are one. -/
def dOr (τ : Option DTy) (cs : List AVal) : AVal := match τ with
  | some τ => match whole (asm τ cs) with
    | some x => .d τ x
    | none => .agg cs
  | none => .agg cs
def TK.fields : TK → Option (List (Nat × Nat))
  | .struct fs => some fs
  | _ => none
def boxOf : AObj → Option (List AVal)
  | .box cs => some cs
  | _ => none
def isNone : AObj → Bool
  | .none => true
  | _ => false
def opPick (c a b : AVal) : Option Out :=
  match c, a, b with
  | .d .bool t, .d τ x, .d τ' y => (castD τ' τ y).bind fun y' => retV (.d τ (cond t x y'))
  | .d .bool t, .d τ x, .und => retC [t] (.d τ x)
  | .d .bool t, .und, .d τ y => retC [!t] (.d τ y)
  | _, _, _ => none
def opAlloc (E : Env) (e d : Nat) (O : Nat → AObj) : Option Out :=
  (E.ty e).bind fun r => ifO (isNone (O d)) (cond (Nat.beq e E.bty) (retW [] (.ptr d 0) d (.bld [])) (retW [] (.ptr d 0) d (.box r.zero)))
def opBox (d : Nat) (x : AVal) (O : Nat → AObj) : Option Out :=
  x.cells.bind fun cs => ifO (isNone (O d)) (retW [] (.ptr d 0) d (.box cs))
/-- A row that may still grow. -/
def AVal.isRow : AVal → Bool
  | .nils => true
  | .lit _ _ => true
  | .vs _ _ _ _ => true
  | _ => false
def opBuild (E : Env) (t : Nat) (ps : List (Nat × AVal)) : Option Out :=
  (E.ty t).bind fun r => r.kind.fields.bind fun fs =>
    (fillA (fun i => (fs[i]?).bind fun f => (E.ty f.1).map fun q => (f.2, q.size)) r.zero ps).bind fun cs => retV (dOr (cond (cs.any AVal.isRow) none r.dty) cs)
def opLit (E : Env) (t n : Nat) (ps : List (Nat × AVal)) : Option Out :=
  (elemOf E t).bind fun p => (fillA (fun i => some (i * p.2.1.size, p.2.1.size)) (List.replicate n p.2.1.zero).flatten ps).bind fun cs =>
    ((List.range n).mapM fun i => whole (asm p.2.2 ((cs.drop (i * p.2.1.size)).take p.2.1.size))).bind fun l => ifO (Nat.ble (n * p.2.1.size) 16777216) (retV (.lit p.2.2 l))
def opLoad (E : Env) (t : Nat) (a : AVal) (O : Nat → AObj) : Option Out :=
  (E.ty t).bind fun r => match a with
    | .cp τ x => ifO (decide (r.dty = some τ)) (retV (.d τ x))
    | .ptr id off => (boxOf (O id)).bind fun cs => ifO (Nat.ble (off + r.size) cs.length)
        (cond r.kind.agg (retR id (dOr r.dty ((cs.drop off).take r.size))) (ifO (Nat.beq r.size 1) (retR id (cs.getD off .junk))))
    | _ => none
def opStore (E : Env) (t : Nat) (a x : AVal) (O : Nat → AObj) : Option Out :=
  (E.ty t).bind fun r => match a with
    | .ptr id off => (boxOf (O id)).bind fun cs => x.cells.bind fun ds => ifO (Nat.ble (off + r.size) cs.length && Nat.beq ds.length r.size) (retW [] .und id (.box (replaceAt cs off ds)))
    | _ => none
def opNil (x : AVal) : Option Out :=
  match x with
  | .ptr id off => retV (.ptr id off)
  | .cp τ x => retV (.cp τ x)
  | .fn f c => retV (.fn f c)
  | _ => none
/-- The version of a slot's row that comes next. -/
def nextVer (τ : DTy) : AObj → Option Nat
  | .none => some 0
  | .vec e k => ifB (decide (e = τ)) (some (k + 1))
  | _ => none
def opMake (E : Env) (t d : Nat) (l c : AVal) (O : Nat → AObj) : Option Out :=
  (elemOf E t).bind fun p => (intOfA l).bind fun n => (intOfA c).bind fun m => (whole (asm p.2.2 p.2.1.zero)).bind fun z => (nextVer p.2.2 (O d)).bind fun k =>
    retW [decide (0 ≤ n), decide (n ≤ m), decide (m * p.2.1.bytes ≤ 140737488355328), decide (m < 4611686018427387904)] (.vs d k p.2.2 (List.replicate n.toNat z)) d (.vec p.2.2 k)
def cutConds (len : Nat) : Option Int → Option Int → List Bool
  | none, none => []
  | some i, none => [decide (0 ≤ i), decide (i ≤ len)]
  | none, some j => [decide (0 ≤ j), decide (j ≤ len)]
  | some i, some j => [decide (0 ≤ j), decide (j ≤ len), decide (0 ≤ i), decide (i ≤ j)]
def cutL {α : Type} (s : List α) : Option Int → Option Int → List α
  | none, none => s
  | some i, none => s.drop i.toNat
  | none, some j => s.take j.toNat
  | some i, some j => (s.take j.toNat).drop i.toNat
/-- A bound that isn't there, or is a number. -/
def boundA : Option AVal → Option (Option Int)
  | none => some none
  | some v => (intOfA v).map some
def opSlice (E : Env) (t : Nat) (x : AVal) (lo hi : Option AVal) : Option Out :=
  (E.ty t).bind fun r => (boundA lo).bind fun i => (boundA hi).bind fun j => match x with
    | .d .str s => ifO r.kind.isStr (retC (cutConds s.length i j) (.d .str (cutL s i j)))
    | v => (elemOf E t).bind fun p => (as (.slice p.2.2) v).bind fun (s : List p.2.2.den) => retC (cutConds s.length i j) (.d (.slice p.2.2) (cutL s i j))
def opFieldAddr (E : Env) (s : Nat) (x : AVal) (f : Nat) : Option Out :=
  (E.ty s).bind fun r => r.kind.fields.bind fun fs => (fs[f]?).bind fun p => match x with
    | .ptr id o => retV (.ptr id (o + p.2))
    | .cp τ v => (projT f τ).bind fun q => ifO (Nat.beq q.1 p.2) ((projA .cp f τ v).bind retV)
    | _ => none
def opField (E : Env) (s : Nat) (x : AVal) (f : Nat) : Option Out :=
  (E.ty s).bind fun r => r.kind.fields.bind fun fs => (fs[f]?).bind fun p => match x with
    | .d τ v => (projT f τ).bind fun q => (E.ty p.1).bind fun u => ifO (Nat.beq q.1 p.2 && Nat.beq q.2.size u.size && (q.2.agg == u.kind.agg)) ((projA .d f τ v).bind retV)
    | _ => none
def opIndexAddr (E : Env) (t : Nat) (x i : AVal) : Option Out :=
  (elemOf E t).bind fun p => (intOfA i).bind fun n => (as (.slice p.2.2) x).bind fun (l : List p.2.2.den) =>
    retC [decide (0 ≤ n), decide (n < l.length)] (.cp p.2.2 (l.getD n.toNat p.2.2.dflt))
def opIndex (E : Env) (t : Nat) (x i : AVal) : Option Out :=
  (E.ty t).bind fun r => (intOfA i).bind fun n => match x with
    | .d .str s => ifO r.kind.isStr (retC [decide (0 ≤ n), decide (n < s.length)] (.d (.int .u8) ((s.getD n.toNat 0).toNat : Int)))
    | _ => none
def opExtract (x : AVal) (i : Nat) : Option Out :=
  match x with
  | .tup l => (l[i]?).bind retV
  | _ => none
def opLen (E : Env) (t : Nat) (x : AVal) : Option Out :=
  (E.ty t).bind fun r => match x with
    | .d .str s => ifO r.kind.isStr (retV (.d (.int .i64) (s.length : Int)))
    | v => (elemOf E t).bind fun p => (as (.slice p.2.2) v).bind fun (l : List p.2.2.den) => retV (.d (.int .i64) (l.length : Int))
def vecIs (τ : DTy) (ver : Nat) : AObj → Bool
  | .vec e k => decide (e = τ) && Nat.beq k ver
  | _ => false
def opAppend (E : Env) (t t' d : Nat) (s x : AVal) (O : Nat → AObj) : Option Out :=
  ifO (Nat.beq t t') <| (elemOf E t).bind fun p => (as (.slice p.2.2) x).bind fun (m : List p.2.2.den) => match s with
    | .vs id ver τ' l => (castD (.slice τ') (.slice p.2.2) l).bind fun (l : List p.2.2.den) =>
        ifO (vecIs p.2.2 ver (O id)) (retW [growOk l.length m.length p.2.1.bytes] (.vs id (ver + 1) p.2.2 (l ++ m)) id (.vec p.2.2 (ver + 1)))
    | .nils => (nextVer p.2.2 (O d)).bind fun k => retW [growOk 0 m.length p.2.1.bytes] (.vs d k p.2.2 m) d (.vec p.2.2 k)
    | .lit τ' l => (castD (.slice τ') (.slice p.2.2) l).bind fun (l : List p.2.2.den) => (nextVer p.2.2 (O d)).bind fun k =>
        retW [growOk l.length m.length p.2.1.bytes] (.vs d k p.2.2 (l ++ m)) d (.vec p.2.2 k)
    | _ => none
def opMinMax (b : Builtin) (xs : List AVal) : Option Out :=
  match b, xs with
  | .min, [.d (.int .i64) a, .d (.int .i64) b] => retV (.d (.int .i64) (if b < a then b else a))
  | .max, [.d (.int .i64) a, .d (.int .i64) b] => retV (.d (.int .i64) (if b > a then b else a))
  | _, _ => none
def opBuiltin (E : Env) (b : Builtin) (d : Option Nat) (xs : List AVal) (ts : List Nat) (O : Nat → AObj) : Option Out :=
  match b, xs, ts with
  | .len, [x], [t] => opLen E t x
  | .append, [s, x], [t, t'] => d.bind fun d => opAppend E t t' d s x O
  | .min, xs, _ => opMinMax .min xs
  | .max, xs, _ => opMinMax .max xs
  | _, _, _ => none
def opCall (E : Env) (f : AVal) (d : Option Nat) (xs : List AVal) (O : Nat → AObj) : Option Out :=
  match f, d with
  | .fn g cap, some d => E.call g (xs ++ cap) O d
  | _, _ => none
def opD (E : Env) : OpD := fun o ρ O =>
  match o.op with
  | .move x => retV (ρ x)
  | .assign x => retV (ρ x)
  | .pick c a b => opPick (ρ c) (ρ a) (ρ b)
  | .alloc e => o.dst.bind fun d => opAlloc E e d O
  | .box e x => o.dst.bind fun d => opBox d (ρ x) O
  | .build t ps => opBuild E t (ps.toList.map fun p => (p.1, ρ p.2))
  | .buildSlice t n ps => opLit E t n (ps.toList.map fun p => (p.1, ρ p.2))
  | .load t a => opLoad E t (ρ a) O
  | .store t a x => opStore E t (ρ a) (ρ x) O
  | .nilCheck x => opNil (ρ x)
  | .binOp op t x y _ => binA E op t (ρ x) (ρ y)
  | .unOp op _ x => unA op (ρ x)
  | .convert s t x => convA E s t (ρ x)
  | .makeFunc (.func f) first cap => ifO (Nat.beq first.size 0) (retV (.fn f (cap.toList.map ρ)))
  | .makeSlice t l c => o.dst.bind fun d => opMake E t d (ρ l) (ρ c) O
  | .slice t x lo hi none => opSlice E t (ρ x) (lo.map ρ) (hi.map ρ)
  | .fieldAddr s x f => opFieldAddr E s (ρ x) f
  | .field s x f => opField E s (ρ x) f
  | .indexAddr t x i => opIndexAddr E t (ρ x) (ρ i)
  | .index t x i => opIndex E t (ρ x) (ρ i)
  | .extract x i => opExtract (ρ x) i
  | .call ⟨.value f, xs, _⟩ => opCall E (ρ f) o.dst (xs.toList.map ρ) O
  | .call ⟨.builtin b, xs, ts⟩ => opBuiltin E b o.dst (xs.toList.map ρ) ts.toList O
  | _ => none
end Go.Proofs.Ytgmjbnglenmlpaa.Ab
end
section
/- The abstract machine: rows of cells, new blocks, what a value's cells are. No program in sight. -/
set_option linter.unusedVariables false
namespace Go.Proofs.Ytgmjbnglenmlpaa.Ab
open Go Go.RowKit
section
variable {hw : Nat → Nat} {w : World}
/-- The cells of some data, one behind the other. -/
inductive CRels (hw : Nat → Nat) (w : World) (e : DTy) : List e.den → List Value → Prop
  | nil : CRels hw w e [] []
  | cons {x : e.den} {l : List e.den} {es cs : List Value} (h : CRel hw w e x es) (k : CRels hw w e l cs) : CRels hw w e (x :: l) (es ++ cs)
theorem CRels.length {e : DTy} {l : List e.den} {cs : List Value} (h : CRels hw w e l cs) : cs.length = l.length * e.size := by
  induction h with
  | nil => simp
  | cons h _ ih => rw [List.length_append, h.length, ih, List.length_cons, Nat.add_mul]; omega
theorem CRels.append {e : DTy} {l m : List e.den} {cs ds : List Value} (h : CRels hw w e l cs) (k : CRels hw w e m ds) : CRels hw w e (l ++ m) (cs ++ ds) := by
  induction h with
  | nil => exact k
  | cons h _ ih => rw [List.append_assoc]; exact .cons h ih
theorem drop_head {α : Type} {es cs : List α} {s : Nat} (h : es.length = s) (i : Nat) : (es ++ cs).drop ((i + 1) * s) = cs.drop (i * s) := by
  have e1 : (i + 1) * s = s + i * s := by rw [Nat.add_mul]; omega
  rw [e1, ← List.drop_drop, ← h, List.drop_left]
theorem CRels.get {e : DTy} {l : List e.den} {cs : List Value} (h : CRels hw w e l cs) : ∀ (i : Nat), i < l.length → CRel hw w e (l.getD i e.dflt) ((cs.drop (i * e.size)).take e.size) := by
  induction h with
  | nil => intro i hi; cases hi
  | cons h k ih =>
    rename_i x l es cs
    intro i hi
    have hl := h.length
    cases i with
    | zero =>
      rw [Nat.zero_mul, List.drop_zero, List.take_append_of_le_length (by omega), List.take_of_length_le (by omega)]
      exact h
    | succ i =>
      have := ih i (by simpa using hi)
      rw [drop_head hl]
      exact this
theorem CRels.mono {hw' : Nat → Nat} {w' : World} (hm : ∀ b, hw b ≤ hw' b) (hc : ∀ b o, o < hw b → w'.cell? ⟨b, o, none⟩ = w.cell? ⟨b, o, none⟩) {e : DTy} {l : List e.den} {cs : List Value} (h : CRels hw w e l cs) : CRels hw' w' e l cs := by
  induction h with
  | nil => exact .nil
  | cons h _ ih => exact .cons (h.mono hm hc) ih
theorem Holds.append {b o : Nat} {cs ds : List Value} (h : Holds w b o cs) (k : Holds w b (o + cs.length) ds) : Holds w b o (cs ++ ds) := by
  intro j hj
  rw [List.length_append] at hj
  by_cases hlt : j < cs.length
  · rw [h j hlt, List.getElem?_append_left hlt]
  · have := k (j - cs.length) (by omega)
    rw [List.getElem?_append_right (by omega), ← this]
    congr 2
    omega
theorem Holds.part {b o : Nat} {cs : List Value} (h : Holds w b o cs) (i n : Nat) : Holds w b (o + i) ((cs.drop i).take n) := by
  intro j hj
  rw [List.length_take, List.length_drop] at hj
  have := h (i + j) (by omega)
  rw [List.getElem?_take_of_lt (by omega), List.getElem?_drop, ← this]
  congr 2
  omega
theorem CRels.of {e : DTy} {b : Nat} : ∀ (l : List e.den) (o : Nat), (∀ i, i < l.length → ∃ es, CRel hw w e (l.getD i e.dflt) es ∧ Holds w b (o + i * e.size) es) → ∃ cs, CRels hw w e l cs ∧ Holds w b o cs := by
  intro l
  induction l with
  | nil => intro o _; exact ⟨[], .nil, fun j hj => by cases hj⟩
  | cons x l ih =>
    intro o h
    obtain ⟨es, h1, h2⟩ := h 0 (by simp)
    obtain ⟨cs, h3, h4⟩ := ih (o + e.size) (fun i hi => by
      obtain ⟨es, a, c⟩ := h (i + 1) (by simpa using hi)
      refine ⟨es, a, ?_⟩
      have : o + (i + 1) * e.size = o + e.size + i * e.size := by rw [Nat.add_mul]; omega
      rw [← this]; exact c)
    refine ⟨es ++ cs, .cons h1 h3, Holds.append ?_ ?_⟩
    · have : o + 0 * e.size = o := by omega
      rw [this] at h2; exact h2
    · rw [CRel.length h1]; exact h4
theorem slice_open {e : DTy} {l : List e.den} {v : Value} (h : CRel hw w (.slice e) l [v]) :
    ∃ A c, v = .slice A l.length c ∧ l.length ≤ c ∧ (l = [] ∨ ∃ b o cs, A = some ⟨b, o, none⟩ ∧ CRels hw w e l cs ∧ Holds w b o cs ∧ o + l.length * e.size ≤ hw b) := by
  rw [CRel] at h
  obtain ⟨A, c, h1, h2, h3⟩ := h
  refine ⟨A, c, by simpa using h1, h2, ?_⟩
  cases l with
  | nil => exact .inl rfl
  | cons x l =>
    obtain ⟨b, o, es, ha, _, _, _⟩ := h3 0 (by simp)
    obtain ⟨cs, h4, h5⟩ := CRels.of (hw := hw) (w := w) (b := b) (x :: l) o (fun i hi => by
      obtain ⟨b', o', es', ha', hr, hh, _⟩ := h3 i hi
      rw [ha] at ha'
      cases ha'
      exact ⟨es', hr, hh⟩)
    refine .inr ⟨b, o, cs, ha, h4, h5, ?_⟩
    obtain ⟨b', o', es', ha', hr, hh, hp⟩ := h3 l.length (by simp)
    rw [ha] at ha'
    cases ha'
    rw [List.length_cons, Nat.add_mul]
    omega
theorem slice_mk {e : DTy} {l : List e.den} {b o c : Nat} {cs : List Value} (h1 : CRels hw w e l cs) (h2 : Holds w b o cs) (h3 : o + l.length * e.size ≤ hw b) (h4 : l.length ≤ c) :
    CRel hw w (.slice e) l [.slice (some ⟨b, o, none⟩) l.length c] := by
  rw [CRel]
  refine ⟨_, c, rfl, h4, fun i hi => ⟨b, o, _, rfl, h1.get i hi, h2.part _ _, ?_⟩⟩
  have : (i + 1) * e.size ≤ l.length * e.size := Nat.mul_le_mul_right _ hi
  rw [Nat.add_mul] at this
  omega
theorem slice_nil {e : DTy} {A : Option Addr} {c : Nat} : CRel hw w (.slice e) [] [.slice A 0 c] := by
  rw [CRel]
  exact ⟨A, c, rfl, Nat.zero_le _, fun i hi => by cases hi⟩
/-- A slice's part. -/
theorem slice_part {e : DTy} {l : List e.den} {A : Option Addr} {c : Nat} (h : CRel hw w (.slice e) l [.slice A l.length c]) (i j c' : Nat) (hij : i ≤ j) (hj : j ≤ l.length) (hc : j - i ≤ c')
    (A' : Option Addr) (hA : i < j → A' = A.map (·.add (i * e.size))) : CRel hw w (.slice e) ((l.take j).drop i) [.slice A' (j - i) c'] := by
  obtain ⟨A0, c0, h1, h2, h3⟩ := slice_open h
  cases h1
  have hlen : ((l.take j).drop i).length = j - i := by rw [List.length_drop, List.length_take]; omega
  by_cases hlt : i < j
  · have hne : l ≠ [] := by rintro rfl; simp at hj; omega
    obtain ⟨b, o, cs, rfl, h4, h5, h6⟩ := h3.resolve_left hne
    have hA' := hA hlt
    have hadd : (⟨b, o, none⟩ : Addr).add (i * e.size) = ⟨b, o + i * e.size, none⟩ := by unfold Addr.add; split <;> simp_all
    rw [Option.map_some, hadd] at hA'
    subst hA'
    have hp : CRels hw w e ((l.take j).drop i) ((cs.take (j * e.size)).drop (i * e.size)) := by
      clear h h3 h5 h6 hA hne hc hlen hlt h2 hadd
      induction h4 generalizing i j with
      | nil => simp only [List.take_nil, List.drop_nil]; exact .nil
      | cons hx hk ih =>
        rename_i x l es cs
        have hes := hx.length
        cases j with
        | zero =>
          obtain rfl : i = 0 := by omega
          simp; exact .nil
        | succ j =>
          have e1 : (es ++ cs).take ((j + 1) * e.size) = es ++ cs.take (j * e.size) := by
            rw [Nat.add_mul, Nat.one_mul, Nat.add_comm, List.take_append, List.take_of_length_le (by omega)]
            congr 2
            omega
          rw [e1, List.take_succ_cons]
          cases i with
          | zero =>
            have := ih 0 j (by omega) (by simpa using hj)
            simp only [Nat.zero_mul, List.drop_zero] at this ⊢
            exact .cons hx this
          | succ i =>
            rw [List.drop_succ_cons, drop_head hes]
            exact ih i j (by omega) (by simpa using hj)
    have hh : Holds w b (o + i * e.size) ((cs.take (j * e.size)).drop (i * e.size)) := by
      have := (h5.part 0 (j * e.size)).part (i * e.size) (((cs.drop 0).take (j * e.size)).length - i * e.size)
      rw [List.drop_zero, Nat.add_zero] at this
      rw [List.take_of_length_le (by simp)] at this
      exact this
    have hm : (j : Nat) * e.size ≤ l.length * e.size := Nat.mul_le_mul_right _ hj
    have hji : (j - i) * e.size = j * e.size - i * e.size := Nat.sub_mul _ _ _
    have hile : i * e.size ≤ j * e.size := Nat.mul_le_mul_right _ hij
    have := slice_mk (c := c') hp hh (by rw [hlen, hji]; omega) (by omega)
    rw [hlen] at this
    exact this
  · have hnil : (l.take j).drop i = [] := List.eq_nil_of_length_eq_zero (by omega)
    rw [hnil, show j - i = 0 by omega]
    exact slice_nil
end
theorem addr_add (b o j : Nat) : (⟨b, o, none⟩ : Addr).add j = ⟨b, o + j, none⟩ := by unfold Addr.add; split <;> simp_all
section
variable {π : Par} {fr : Nat → Prop} {w0 : World} {hw0 : Nat → Nat} {g g' : G} {O O' : Nat → AObj} {w w' : World}
theorem Sim.hw_lt (h : Sim π fr w0 hw0 g O w) {b o : Nat} (ho : o < g.hw b) : b < w.heap.size := by
  rcases Nat.lt_or_ge b w.heap.size with h1 | h1
  · exact h1
  · rw [h.hwz b (.size h1)] at ho; omega
theorem noCells_back {w w' : World} (hsz : w'.heap.size = w.heap.size + 1) (hb : ∀ b, b < w.heap.size → w'.heap[b]? = w.heap[b]?) {b : Nat} (h : NoCells w' b) : NoCells w b := by
  by_cases hlt : b < w.heap.size
  · exact h.congr (hb b hlt)
  · exact .size (by omega)
theorem heap_new (w : World) (o : Obj) : (w.alloc o).heap[w.heap.size]? = some o := by
  show (w.heap.push o)[w.heap.size]? = some o
  simp
/-- A new block (or none, the draws apart), of which the first m cells never turn. -/
theorem Sim.new (hπ : π.Ok) (h : Sim π fr w0 hw0 g O w) (hos : w'.os = w.os ∧ w'.tape = w.tape ∧ w'.output = w.output) (hsz : w'.heap.size = w.heap.size + 1) (hb : ∀ b, b < w.heap.size → w'.heap[b]? = w.heap[b]?) (hnb : ∃ cs t z, w'.heap[w.heap.size]? = some (.cells cs t z)) (m : Nat) :
    Sim π fr w0 hw0 { g with hw := put g.hw w.heap.size m } O w' ∧ Adv g O w { g with hw := put g.hw w.heap.size m } O w' := by
  have ha : Adv g O w { g with hw := put g.hw w.heap.size m } O w' := by
    refine ⟨fun b => ?_, fun b o ho => World.cell?_of_block (hb b (h.hw_lt ho)), fun id e k hv => ⟨k, hv, Nat.le_refl _, fun _ => rfl⟩, fun id h1 h2 => ⟨h1, h2, rfl⟩, fun id τ l hi => ⟨hi, rfl⟩⟩
    by_cases hbb : b = w.heap.size
    · subst hbb; rw [h.hwz _ (.size (Nat.le_refl _))]; omega
    · show g.hw b ≤ put g.hw w.heap.size m b; rw [put_ne _ _ hbb]; omega
  refine ⟨h.step hπ ha (fun _ => False) hos (by omega) (fun b hlt _ => ⟨hb b hlt, put_ne _ _ (by omega)⟩) (fun id _ => ⟨rfl, rfl, rfl, fun _ => Iff.rfl⟩) (fun b hlt => ?_) (fun id hid => hid.elim) (fun id _ _ hid => hid.elim), ha⟩
  show put g.hw w.heap.size m b = 0
  have hne : b ≠ w.heap.size := by rintro rfl; obtain ⟨cs, t, z, e⟩ := hnb; exact hlt cs t z e
  rw [put_ne _ _ hne]
  exact h.hwz b (noCells_back hsz hb hlt)
/-- A draw. -/
theorem Sim.drew (hπ : π.Ok) (h : Sim π fr w0 hw0 g O w) : Sim π fr w0 hw0 g O w.drew ∧ Adv g O w g O w.drew := by
  have ha : Adv g O w g O w.drew := ⟨fun b => Nat.le_refl _, fun b o ho => rfl, fun id e k hv => ⟨k, hv, Nat.le_refl _, fun _ => rfl⟩, fun id h1 h2 => ⟨h1, h2, rfl⟩, fun id τ l hi => ⟨hi, rfl⟩⟩
  exact ⟨h.step hπ ha (fun _ => False) ⟨rfl, rfl, rfl⟩ (Nat.le_refl _) (fun b _ _ => ⟨rfl, rfl⟩) (fun id _ => ⟨rfl, rfl, rfl, fun _ => Iff.rfl⟩) (fun b hlt => h.hwz b hlt) (fun id hid => hid.elim) (fun id _ _ hid => hid.elim), ha⟩
/-- A new object in a block of its own. -/
theorem Sim.born (hπ : π.Ok) (h : Sim π fr w0 hw0 g O w) (hos : w'.os = w.os ∧ w'.tape = w.tape ∧ w'.output = w.output) (hsz : w'.heap.size = w.heap.size + 1) (hb : ∀ b, b < w.heap.size → w'.heap[b]? = w.heap[b]?)
    (hnb : ∃ cs t z, w'.heap[w.heap.size]? = some (.cells cs t z)) (id : Nat) (x : AObj) (hid : O id = .none ∨ ∃ e k, O id = .vec e k ∧ x = .vec e (k + 1)) (m : Nat) (cv : Value)
    (hok : ∀ (g' : G) (O' : Nat → AObj), g' = { g with hw := put g.hw w.heap.size m, loc := put g.loc id w.heap.size, cur := put g.cur id cv, own := put g.own id (fun b => b = w.heap.size) } → O' = put O id x → Adv g O w g' O' w' → ObjOk π g' O' w' id) :
    ∃ g', Sim π fr w0 hw0 g' (put O id x) w' ∧ Adv g O w g' (put O id x) w' ∧ g'.loc id = w.heap.size ∧ g'.cur id = cv ∧ g'.hw w.heap.size = m ∧ ∀ b, g.hw b ≤ g'.hw b := by
  refine ⟨{ g with hw := put g.hw w.heap.size m, loc := put g.loc id w.heap.size, cur := put g.cur id cv, own := put g.own id (fun b => b = w.heap.size) }, ?_⟩
  generalize hg' : ({ g with hw := put g.hw w.heap.size m, loc := put g.loc id w.heap.size, cur := put g.cur id cv, own := put g.own id (fun b => b = w.heap.size) } : G) = g'
  have e1 : g'.hw = put g.hw w.heap.size m := by rw [← hg']
  have e2 : g'.loc = put g.loc id w.heap.size := by rw [← hg']
  have e3 : g'.cur = put g.cur id cv := by rw [← hg']
  have e4 : g'.own = put g.own id (fun b => b = w.heap.size) := by rw [← hg']
  have hwle : ∀ b, g.hw b ≤ g'.hw b := by
    intro b
    rw [e1]
    by_cases hbb : b = w.heap.size
    · subst hbb; rw [h.hwz _ (.size (Nat.le_refl _))]; omega
    · rw [put_ne _ _ hbb]; omega
  have ha : Adv g O w g' (put O id x) w' := by
    refine ⟨hwle, fun b o ho => World.cell?_of_block (hb b (h.hw_lt ho)), fun i e k hv => ?_, fun i h1 h2 => ?_, fun i τ l hi => ?_⟩
    · by_cases hi : i = id
      · subst hi
        rcases hid with hid | ⟨e', k', hid, rfl⟩
        · rw [hid] at hv; cases hv
        · rw [hid] at hv; cases hv; exact ⟨k + 1, put_same _ _ _, by omega, fun hh => by omega⟩
      · exact ⟨k, by rw [put_ne _ _ hi]; exact hv, Nat.le_refl _, fun _ => by rw [e3, put_ne _ _ hi]⟩
    · have hi : i ≠ id := by
        rintro rfl
        rcases hid with hid | ⟨e', k', hid, _⟩
        · exact h1 hid
        · exact h2 _ _ hid
      rw [put_ne _ _ hi, e2, put_ne _ _ hi]
      exact ⟨h1, h2, rfl⟩
    · have hi' : i ≠ id := by
        rintro rfl
        rcases hid with hid | ⟨e', k', hid, _⟩ <;> (rw [hid] at hi; cases hi)
      rw [put_ne _ _ hi', e3, put_ne _ _ hi']
      exact ⟨hi, rfl⟩
  refine ⟨h.step hπ ha (fun i => i = id) hos (by omega) (fun b hlt _ => ⟨hb b hlt, by rw [e1]; exact put_ne _ _ (by omega)⟩) (fun i hi => ⟨put_ne _ _ hi, by rw [e2]; exact put_ne _ _ hi, by rw [e3]; exact put_ne _ _ hi, fun b => by rw [e4, put_ne _ _ hi]⟩) (fun b hlt => ?_) ?_ ?_, ha, by rw [e2]; exact put_same _ _ _, by rw [e3]; exact put_same _ _ _, by rw [e1]; exact put_same _ _ _, hwle⟩
  · have hne : b ≠ w.heap.size := by rintro rfl; obtain ⟨cs, t, z, e⟩ := hnb; exact hlt cs t z e
    rw [e1, put_ne _ _ hne]
    exact h.hwz b (noCells_back hsz hb hlt)
  · rintro i rfl hn
    refine ⟨hok g' _ hg'.symm rfl ha, fun b hbo => ?_⟩
    rw [e4, put_same] at hbo
    subst hbo
    exact ⟨.inl (Nat.le_refl _), fun hnc => by obtain ⟨cs, t, z, e⟩ := hnb; exact hnc cs t z e⟩
  · rintro i i' b rfl rfl _ _ _ _; rfl
end
end Go.Proofs.Ytgmjbnglenmlpaa.Ab
end
section
/- The abstract machine: what the program's types owe; values as data; the operations that leave the world alone. -/
set_option linter.unusedVariables false
namespace Go.Proofs.Ytgmjbnglenmlpaa.Ab
open Go Go.RowKit
def DescIs (d : TypeDesc) : TK → Prop
  | .int i => d = .int i
  | .bool => d = .bool
  | .str => d = .string
  | .slice e => d = .slice e
  | .ptr e => d = .pointer e
  | .map a b => d = .map a b
  | .struct fs => ∃ fields : Array Field, d = .struct fields ∧ fields.toList.map (fun f => (f.type, f.offset)) = fs
  | .func => ∃ a b c, d = .func a b c
  | .other => (match d with | .struct _ => false | .array _ _ => false | .slice _ => false | .string => false | _ => true) = true
def leafB (P : Program) : DTy → TypeId → Bool
  | .int k, t => match P.underlying t with
    | some (.int k') => decide (k = k')
    | _ => false
  | .bool, t => match P.underlying t with
    | some .bool => true
    | _ => false
  | .str, t => match P.underlying t with
    | some .string => true
    | _ => false
  | _, _ => false
/-- Fields of one cell each, all of which count. -/
def flatB (P : Program) : DTy → List Field → Nat → Bool
  | .prod a b, f :: r, o => (f.name != "_") && (Nat.beq f.offset o && (leafB P a f.type && flatB P b r (o + 1)))
  | .unit, [], _ => true
  | _, _, _ => false
/-- Structs of a type may be compared. -/
def EqTy (P : Program) (t : Nat) (τ : DTy) : Prop := ∃ fs, P.underlying t = some (.struct fs) ∧ P.stoodInHeld t = false ∧ P.eqGuardType P.depth t = false ∧ flatB P τ fs.toList 0 = true
/-- A type's row tells what the program says of it. -/
structure TyOk (P : Program) (E : Env) (t : Nat) (r : TyRow) : Prop where
  info : ∃ i z, P.info? t = some i ∧ i.size = r.size ∧ i.bytes = r.bytes ∧ i.zero = some z ∧ z.cells.toList.map ofCell = r.zero ∧ z.cells.size = r.size ∧ (z.cells.toList.all fun v => v.oneCell') = true
  desc : ∃ d, P.underlying t = some d ∧ DescIs d r.kind
  dty : ∀ τ, r.dty = some τ → τ.size = r.size ∧ τ.agg = r.kind.agg
  fld : ∀ fs, r.kind = .struct fs → ∀ f ∈ fs, ∃ q, E.ty f.1 = some q ∧ q.size ≠ 0
  pos : r.kind.elem.isSome → r.size = 1
  eq : r.eq = true → ∃ τ, r.dty = some τ ∧ EqTy P t τ
section
variable {P : Program} {E : Env} {t : Nat} {r : TyRow} {w : World}
theorem run_under {d : TypeDesc} (h : P.underlying t = some d) : (underlying t).run P w = .ok d w := by
  simp [underlying, h]
theorem TyOk.under (h : TyOk P E t r) : ∃ d, (underlying t).run P w = .ok d w ∧ DescIs d r.kind ∧ P.underlying t = some d := by
  obtain ⟨d, h1, h2⟩ := h.desc
  exact ⟨d, run_under h1, h2, h1⟩
theorem TyOk.sizeOf (h : TyOk P E t r) : (sizeOf t).run P w = .ok r.size w := by
  obtain ⟨i, z, h1, h2, _⟩ := h.info
  simp [Go.sizeOf, typeInfo, h1, h2]
theorem TyOk.isAgg (h : TyOk P E t r) : (isAgg t).run P w = .ok r.kind.agg w := by
  obtain ⟨d, h1, h2, _⟩ := h.under (w := w)
  unfold Go.isAgg
  rw [Sem.run_bind, h1, Result.andThen_ok]
  cases hk : r.kind <;> rw [hk] at h2 <;> simp only [DescIs] at h2
  case other => cases d <;> simp at h2 <;> rfl
  case struct fs => obtain ⟨f, rfl, _⟩ := h2; rfl
  case func => obtain ⟨_, _, _, rfl⟩ := h2; rfl
  all_goals (subst h2; rfl)
end
theorem castD_some {a b : DTy} {x : a.den} {y : b.den} (h : castD a b x = some y) : ∃ e : a = b, e ▸ x = y := by
  unfold castD at h
  split at h
  · rename_i e; exact ⟨e, by simpa using h⟩
  · cases h
theorem ifB_some {α : Type} {b : Bool} {x : Option α} {r : α} (h : ifB b x = some r) : b = true ∧ x = some r := by
  cases b with
  | true => exact ⟨rfl, h⟩
  | false => cases h
theorem ifO_some {b : Bool} {x : Option Out} {r : Out} (h : ifO b x = some r) : b = true ∧ x = some r := by
  cases b with
  | true => exact ⟨rfl, h⟩
  | false => cases h
theorem bind_some {α β : Type} {x : Option α} {f : α → Option β} {r : β} (h : x.bind f = some r) : ∃ a, x = some a ∧ f a = some r := by
  cases x with
  | none => cases h
  | some a => exact ⟨a, rfl, h⟩
theorem bind_someO {α : Type} {x : Option α} {f : α → Option Out} {r : Out} (h : x.bind f = some r) : ∃ a, x = some a ∧ f a = some r := by
  cases x with
  | none => cases h
  | some a => exact ⟨a, rfl, h⟩
section
variable {g : G} {O : Nat → AObj} {w : World}
theorem wrapV_leaf {τ : DTy} (h : τ.agg = false) (v : Value) : wrapV τ [v] = v := by simp [wrapV, h]
theorem wrapV_agg {τ : DTy} (h : τ.agg = true) (cs : List Value) : wrapV τ cs = .agg cs.toArray := by simp [wrapV, h]
theorem size_leaf {τ : DTy} (h : τ.agg = false) : τ.size = 1 := by cases τ <;> simp [DTy.agg] at h <;> rfl
theorem arel_d {τ : DTy} {x : τ.den} {v : Value} (h : ARel g O w (.d τ x) v) : ∃ cs, CRel g.hw w τ x cs ∧ v = wrapV τ cs := by
  cases h with
  | d h => exact ⟨_, h, rfl⟩
theorem arel_leaf {τ : DTy} {x : τ.den} {v : Value} (ha : τ.agg = false) (h : ARel g O w (.d τ x) v) : CRel g.hw w τ x [v] := by
  obtain ⟨cs, h1, rfl⟩ := arel_d h
  have hl := h1.length
  rw [size_leaf ha] at hl
  match cs, hl with
  | [c], _ => rw [wrapV_leaf ha]; exact h1
theorem arel_of_leaf {τ : DTy} {x : τ.den} {v : Value} (ha : τ.agg = false) (h : CRel g.hw w τ x [v]) : ARel g O w (.d τ x) v := by
  have := ARel.d (O := O) h
  rwa [wrapV_leaf ha] at this
theorem arel_int {k : IntKind} {n : Int} {v : Value} (h : ARel g O w (.d (.int k) n) v) : v = .int k n := by
  have := arel_leaf rfl h
  rw [CRel] at this
  simpa using this
theorem arel_bool {b : Bool} {v : Value} (h : ARel g O w (.d .bool b) v) : v = .bool b := by
  have := arel_leaf rfl h
  rw [CRel] at this
  simpa using this
theorem arel_str {s : List UInt8} {v : Value} (h : ARel g O w (.d .str s) v) : v = .string ⟨s.toArray⟩ := by
  have := arel_leaf rfl h
  rw [CRel] at this
  simpa using this
theorem mk_int (k : IntKind) (n : Int) : ARel g O w (.d (.int k) n) (.int k n) := arel_of_leaf rfl (by rw [CRel])
theorem mk_bool (b : Bool) : ARel g O w (.d .bool b) (.bool b) := arel_of_leaf rfl (by rw [CRel])
theorem mk_str (s : List UInt8) : ARel g O w (.d .str s) (.string ⟨s.toArray⟩) := arel_of_leaf rfl (by rw [CRel])
theorem mk_str' (s : ByteArray) : ARel g O w (.d .str s.data.toList) (.string s) := mk_str s.data.toList
theorem arel_slice {e : DTy} {l : List e.den} {v : Value} (h : ARel g O w (.d (.slice e) l) v) : CRel g.hw w (.slice e) l [v] := arel_leaf rfl h
/-- A value as a leaf of a type. -/
theorem leafAs_rel {τ : DTy} {u : AVal} {x : τ.den} {v : Value} (h : leafAs τ u = some x) (hr : ARel g O w u v) : ARel g O w (.d τ x) v := by
  unfold leafAs at h
  cases u with
  | d τ' y => obtain ⟨e, rfl⟩ := castD_some h; subst e; exact hr
  | lit e l =>
    obtain ⟨e', rfl⟩ := castD_some h
    subst e'
    cases hr with
    | lit hc => exact arel_of_leaf rfl hc
  | vs id ver e l =>
    obtain ⟨e', rfl⟩ := castD_some h
    subst e'
    cases hr with
    | vs hc _ _ _ => exact arel_of_leaf rfl hc
  | nils =>
    cases τ <;> simp at h
    subst h
    cases hr
    exact arel_of_leaf rfl slice_nil
  | _ => cases h
theorem asm_rel {R : AVal → Value → Prop} (hR : ∀ (τ : DTy) (u : AVal) (x : τ.den) (v : Value), leafAs τ u = some x → R u v → ARel g O w (.d τ x) v) :
    ∀ {τ : DTy} {us us' : List AVal} {x : τ.den} {vs : List Value}, asm τ us = some (x, us') → AllR R us vs → ∃ cs vs', vs = cs ++ vs' ∧ CRel g.hw w τ x cs ∧ AllR R us' vs' := by
  have leaf : ∀ (τ : DTy), τ.agg = false → ∀ (c : AVal) (r us' : List AVal) (x : τ.den) (vs : List Value), (leafAs τ c).map (fun x => (x, r)) = some (x, us') → AllR R (c :: r) vs → ∃ cs vs', vs = cs ++ vs' ∧ CRel g.hw w τ x cs ∧ AllR R us' vs' := by
    intro τ ha c r us' x vs h hr
    obtain ⟨y, hy, hxy⟩ := Option.map_eq_some_iff.1 h
    cases hxy
    cases vs with
    | nil => exact hr.elim
    | cons v vs => exact ⟨[v], vs, rfl, arel_leaf ha (hR τ c x v hy hr.1), hr.2⟩
  intro τ
  induction τ with
  | prod a b iha ihb =>
    intro us us' x vs h hr
    unfold asm at h
    obtain ⟨p, hp, h⟩ := bind_some h
    obtain ⟨q, hq, h⟩ := Option.map_eq_some_iff.1 h
    cases h
    obtain ⟨p1, p2⟩ := p
    obtain ⟨q1, q2⟩ := q
    obtain ⟨c1, v1, rfl, h1, h2⟩ := iha hp hr
    obtain ⟨c2, v2, rfl, h3, h4⟩ := ihb hq h2
    exact ⟨c1 ++ c2, v2, by rw [List.append_assoc], by rw [CRel]; exact ⟨c1, c2, rfl, h1, h3⟩, h4⟩
  | unit =>
    intro us us' x vs h hr
    unfold asm at h
    cases h
    exact ⟨[], vs, rfl, by rw [CRel], hr⟩
  | int k => intro us us' x vs h hr; cases us with
    | nil => cases h
    | cons c r => exact leaf _ rfl c r us' x vs h hr
  | bool => intro us us' x vs h hr; cases us with
    | nil => cases h
    | cons c r => exact leaf _ rfl c r us' x vs h hr
  | str => intro us us' x vs h hr; cases us with
    | nil => cases h
    | cons c r => exact leaf _ rfl c r us' x vs h hr
  | slice e _ => intro us us' x vs h hr; cases us with
    | nil => cases h
    | cons c r => exact leaf _ rfl c r us' x vs h hr
theorem whole_some {α : Type} {p : Option (α × List AVal)} {x : α} (h : whole p = some x) : p = some (x, []) := by
  unfold whole at h
  split at h
  · cases h; rfl
  · cases h
theorem asm_whole {τ : DTy} {us : List AVal} {x : τ.den} {vs : List Value} (h : whole (asm τ us) = some x) (hr : AllR (ARel g O w) us vs) : CRel g.hw w τ x vs := by
  obtain ⟨cs, vs', rfl, h1, h2⟩ := asm_rel (fun τ u x v h1 h2 => leafAs_rel h1 h2) (whole_some h) hr
  cases vs' with
  | nil => rw [List.append_nil]; exact h1
  | cons _ _ => exact h2.elim
theorem allR_idx {l : List AVal} {vs : Array Value} (hl : l.length = vs.size) (h : ∀ i, i < l.length → ARel g O w (l.getD i .junk) (vs.getD i undef)) : AllR (ARel g O w) l vs.toList :=
  AllR.of (by simpa using hl) (fun i hi => by
    have := h i hi
    rwa [Array.getD_eq_getD_getElem?, ← Array.getElem?_toList, ← List.getD_eq_getElem?_getD] at this)
theorem allR_idx' {l : List AVal} {vs : Array Value} (h : AllR (ARel g O w) l vs.toList) : l.length = vs.size ∧ ∀ i, i < l.length → ARel g O w (l.getD i .junk) (vs.getD i undef) :=
  ⟨by simpa using h.length, fun i hi => by
    have := h.get i hi
    rwa [Array.getD_eq_getD_getElem?, ← Array.getElem?_toList, ← List.getD_eq_getElem?_getD]⟩
/-- A value as one of a type. -/
theorem as_rel {τ : DTy} {u : AVal} {x : τ.den} {v : Value} (h : as τ u = some x) (hr : ARel g O w u v) : ARel g O w (.d τ x) v := by
  unfold as at h
  cases u with
  | agg cs =>
    dsimp only at h
    cases ha : τ.agg with
    | false => rw [ha] at h; cases h
    | true =>
      rw [ha] at h
      cases hr with
      | agg hl hh =>
        have := ARel.d (O := O) (asm_whole h (allR_idx hl hh))
        rwa [wrapV_agg ha] at this
  | d τ' y => obtain ⟨e, rfl⟩ := castD_some h; subst e; exact hr
  | _ => exact leafAs_rel h hr
theorem as_slc {e : DTy} {u : AVal} {x : (DTy.slice e).den} {v : Value} (h : as (.slice e) u = some x) (hr : ARel g O w u v) : CRel g.hw w (.slice e) x [v] := arel_slice (as_rel h hr)
theorem dcells_rel : ∀ {τ : DTy} {x : τ.den} {cs : List Value}, CRel g.hw w τ x cs → AllR (ARel g O w) (dcells τ x) cs := by
  intro τ
  induction τ with
  | prod a b iha ihb =>
    intro x cs h
    rw [CRel] at h
    obtain ⟨c1, c2, rfl, h1, h2⟩ := h
    exact (iha h1).append (ihb h2)
  | unit => intro x cs h; rw [CRel] at h; subst h; trivial
  | int k => intro x cs h; have := h; rw [CRel] at h; subst h; exact ⟨arel_of_leaf rfl this, trivial⟩
  | bool => intro x cs h; have := h; rw [CRel] at h; subst h; exact ⟨arel_of_leaf rfl this, trivial⟩
  | str => intro x cs h; have := h; rw [CRel] at h; subst h; exact ⟨arel_of_leaf rfl this, trivial⟩
  | slice e _ => intro x cs h; have h' := h; rw [CRel] at h; obtain ⟨A, c, rfl, _⟩ := h; exact ⟨arel_of_leaf rfl h', trivial⟩
theorem leaf_one {u : AVal} {v : Value} (hr : ARel g O w u v) (h : u.leaf = true) : v.oneCell' = true ∧ v.cells = #[v] := by
  cases hr with
  | d hc =>
    rename_i τ x cs
    have ha : τ.agg = false := by simpa [AVal.leaf] using h
    have hl := hc.length
    rw [size_leaf ha] at hl
    match cs, hl with
    | [c], _ =>
      rw [wrapV_leaf ha]
      cases τ <;> simp [DTy.agg] at ha <;> rw [CRel] at hc
      case slice => obtain ⟨A, n, hc, _⟩ := hc; simp at hc; subst hc; exact ⟨rfl, rfl⟩
      all_goals (simp at hc; subst hc; exact ⟨rfl, rfl⟩)
  | lit _ => exact ⟨rfl, rfl⟩
  | nils => exact ⟨rfl, rfl⟩
  | vs hc _ _ _ => obtain ⟨A, c, rfl, _⟩ := slice_open hc; exact ⟨rfl, rfl⟩
  | ptr _ _ => exact ⟨rfl, rfl⟩
  | nilp => exact ⟨rfl, rfl⟩
  | cp _ _ _ => exact ⟨rfl, rfl⟩
  | fn _ _ => exact ⟨rfl, rfl⟩
  | tup _ _ => cases h
  | agg _ _ => cases h
  | it _ => cases h
  | und => cases h
  | junk => cases h
theorem allR_one : ∀ {us : List AVal} {vs : List Value}, AllR (ARel g O w) us vs → us.all AVal.leaf = true → ∀ v ∈ vs, v.oneCell' = true := by
  intro us
  induction us with
  | nil => intro vs h _ v hv; cases vs with
    | nil => cases hv
    | cons _ _ => exact h.elim
  | cons u us ih => intro vs h hl v hv; cases vs with
    | nil => exact h.elim
    | cons x vs =>
      simp only [List.all_cons, Bool.and_eq_true] at hl
      cases hv with
      | head => exact (leaf_one h.1 hl.1).1
      | tail _ hv => exact ih h.2 hl.2 v hv
theorem dcells_leaf : ∀ (τ : DTy) (x : τ.den), (dcells τ x).all AVal.leaf = true := by
  intro τ
  induction τ with
  | prod a b iha ihb => intro x; rw [dcells, List.all_append, iha, ihb]; rfl
  | _ => intro x; rfl
/-- The cells of a value, one by one. -/
theorem cells_rel {u : AVal} {us : List AVal} {v : Value} (h : u.cells = some us) (hr : ARel g O w u v) : AllR (ARel g O w) us v.cells.toList ∧ us.all AVal.leaf = true := by
  unfold AVal.cells at h
  have one : ∀ {u : AVal} {v : Value} {us : List AVal}, ARel g O w u v → cond u.leaf (some [u]) none = some us → AllR (ARel g O w) us v.cells.toList ∧ us.all AVal.leaf = true := by
    intro u v us hr h
    cases hl : u.leaf with
    | false => rw [hl] at h; cases h
    | true =>
      rw [hl] at h
      cases h
      rw [(leaf_one hr hl).2]
      exact ⟨⟨hr, trivial⟩, by simp [hl]⟩
  cases u with
  | agg cs =>
    dsimp only at h
    cases hl : cs.all AVal.leaf with
    | false => rw [hl] at h; cases h
    | true =>
      rw [hl] at h
      cases h
      cases hr with
      | agg h1 h2 => exact ⟨allR_idx h1 h2, hl⟩
  | d τ x =>
    dsimp only at h
    cases h
    obtain ⟨cs, hc, rfl⟩ := arel_d hr
    refine ⟨?_, dcells_leaf τ x⟩
    cases ha : τ.agg with
    | true => rw [wrapV_agg ha]; exact dcells_rel hc
    | false =>
      have hl := hc.length
      rw [size_leaf ha] at hl
      match cs, hl with
      | [c], _ =>
        rw [wrapV_leaf ha] at hr ⊢
        rw [(leaf_one hr (by simp [AVal.leaf, ha])).2]
        exact dcells_rel hc
  | _ => exact one hr h
/-- Cells as one value. -/
theorem dOr_rel {τ : Option DTy} {us : List AVal} {vs : List Value} (hr : AllR (ARel g O w) us vs) (ha : ∀ t, τ = some t → t.agg = true) : ARel g O w (dOr τ us) (.agg vs.toArray) := by
  unfold dOr
  have agg : ARel g O w (.agg us) (.agg vs.toArray) := by
    obtain ⟨h1, h2⟩ := allR_idx' (vs := vs.toArray) (by simpa using hr)
    exact .agg h1 h2
  split
  · rename_i t
    split
    · rename_i x hx
      have := ARel.d (O := O) (asm_whole hx hr)
      rwa [wrapV_agg (ha t rfl)] at this
    · exact agg
  · exact agg
theorem ofCell_rel (v : Value) : ARel g O w (ofCell v) v := by
  unfold ofCell
  split
  · exact mk_int _ _
  · exact mk_bool _
  · exact mk_str' _
  · exact .nils
  · exact .nilp
  · exact .junk
theorem ofCells_rel : ∀ (vs : List Value), AllR (ARel g O w) (vs.map ofCell) vs
  | [] => trivial
  | v :: vs => ⟨ofCell_rel v, ofCells_rel vs⟩
theorem ofLit_rel (v : Value) : ARel g O w (ofLit v) v := by
  unfold ofLit
  split
  · rename_i cs
    obtain ⟨h1, h2⟩ := allR_idx' (ofCells_rel (g := g) (O := O) (w := w) cs.toList)
    exact .agg h1 h2
  · exact ofCell_rel v
end
end Go.Proofs.Ytgmjbnglenmlpaa.Ab
end
section
/- The abstract machine: the operations that leave the world alone. -/
set_option linter.unusedVariables false
set_option linter.unusedSimpArgs false
namespace Go.Proofs.Ytgmjbnglenmlpaa.Ab
open Go Go.RowKit
theorem beq_dec {α : Type} [DecidableEq α] [BEq α] [LawfulBEq α] (a b : α) : (a == b) = decide (a = b) := by
  rw [Bool.eq_iff_iff]; simp
/-- An outcome that writes nothing. -/
def PureO (out : Out) (Res : AVal → Prop) : Prop := ∃ cs u rs, out = ⟨cs, .unit, some (), fun _ => (u, fun _ => .none), [], rs⟩ ∧ ((∀ b, b ∈ cs → b = true) → Res u)
theorem retV_pure {u : AVal} {out : Out} {Res : AVal → Prop} (h : retV u = some out) (hr : Res u) : PureO out Res := by
  cases h; exact ⟨[], u, [], rfl, fun _ => hr⟩
theorem retC_pure {cs : List Bool} {u : AVal} {out : Out} {Res : AVal → Prop} (h : retC cs u = some out) (hr : (∀ b, b ∈ cs → b = true) → Res u) : PureO out Res := by
  cases h; exact ⟨cs, u, [], rfl, hr⟩
theorem retR_pure {id : Nat} {u : AVal} {out : Out} {Res : AVal → Prop} (h : retR id u = some out) (hr : Res u) : PureO out Res := by
  cases h; exact ⟨[], u, [id], rfl, fun _ => hr⟩
def Reads (P : Program) (S : Sem Value) (g : G) (O : Nat → AObj) (w : World) (u : AVal) : Prop := ∃ v, S.run P w = .ok v w ∧ ARel g O w u v
section
variable {P : Program} {E : Env} {g : G} {O : Nat → AObj} {w : World}
theorem intA_run {op : BinOp} {k : IntKind} {a b : Int} {out : Out} (h : intA op k a b = some out) (hs : BinOp.isSh op = false) (t : Nat) (X Y : Operand) :
    PureO out (Reads P (do eqGuard op t X Y (.int k a) (.int k b); binOp op t (.int k a) (.int k b)) g O w) := by
  cases op <;> simp only [BinOp.isSh, Bool.true_eq_false] at hs <;> simp only [intA, bits2, Option.bind_some, Option.bind_none] at h
  case add => exact retV_pure h ⟨_, by simp [eqGuard, binOp, Op.intArith], mk_int _ _⟩
  case sub => exact retV_pure h ⟨_, by simp [eqGuard, binOp, Op.intArith], mk_int _ _⟩
  case mul => exact retV_pure h ⟨_, by simp [eqGuard, binOp, Op.intArith], mk_int _ _⟩
  case quo =>
    refine retC_pure h fun hc => ?_
    have hb : ¬ b = 0 := by simpa using hc
    exact ⟨_, by simp [eqGuard, binOp, Op.intDiv, hb], mk_int _ _⟩
  case rem =>
    refine retC_pure h fun hc => ?_
    have hb : ¬ b = 0 := by simpa using hc
    exact ⟨_, by simp [eqGuard, binOp, Op.intDiv, hb], mk_int _ _⟩
  case eql => exact retV_pure h ⟨.bool (a == b), by simp [eqGuard, binOp, Op.intCmp], by rw [beq_dec]; exact mk_bool _⟩
  case neq => exact retV_pure h ⟨.bool (a != b), by simp [eqGuard, binOp, Op.intCmp], by rw [bne, beq_dec]; exact mk_bool _⟩
  case lss => exact retV_pure h ⟨_, by simp [eqGuard, binOp, Op.intCmp], mk_bool _⟩
  case leq => exact retV_pure h ⟨_, by simp [eqGuard, binOp, Op.intCmp], mk_bool _⟩
  case gtr => exact retV_pure h ⟨_, by simp [eqGuard, binOp, Op.intCmp], mk_bool _⟩
  case geq => exact retV_pure h ⟨_, by simp [eqGuard, binOp, Op.intCmp], mk_bool _⟩
  case and => exact retV_pure h ⟨_, by simp [eqGuard, binOp, Op.intBits], mk_int _ _⟩
  case or => exact retV_pure h ⟨_, by simp [eqGuard, binOp, Op.intBits], mk_int _ _⟩
  case xor => exact retV_pure h ⟨_, by simp [eqGuard, binOp, Op.intBits], mk_int _ _⟩
  case andNot => exact retV_pure h ⟨_, by simp [eqGuard, binOp, Op.intBits], mk_int _ _⟩
  all_goals (cases h)
theorem shA_run {op : BinOp} {k k' : IntKind} {a b : Int} {out : Out} (h : shA op k a b = some out) (t : Nat) (X Y : Operand) :
    PureO out (Reads P (do eqGuard op t X Y (.int k a) (.int k' b); binOp op t (.int k a) (.int k' b)) g O w) := by
  cases op <;> simp only [shA] at h
  case shl =>
    refine retC_pure h fun hc => ?_
    have hb : ¬ b < 0 := by have := hc _ (List.mem_singleton.2 rfl); simp at this; omega
    exact ⟨_, by simp [eqGuard, binOp, Op.shift, hb], mk_int _ _⟩
  case shr =>
    refine retC_pure h fun hc => ?_
    have hb : ¬ b < 0 := by have := hc _ (List.mem_singleton.2 rfl); simp at this; omega
    exact ⟨_, by simp [eqGuard, binOp, Op.shift, hb], mk_int _ _⟩
  all_goals (cases h)
theorem strA_run {op : BinOp} {s u : List UInt8} {out : Out} (h : strA op s u = some out) (t : Nat) (X Y : Operand) :
    PureO out (Reads P (do eqGuard op t X Y (.string ⟨s.toArray⟩) (.string ⟨u.toArray⟩); binOp op t (.string ⟨s.toArray⟩) (.string ⟨u.toArray⟩)) g O w) := by
  cases op <;> simp only [strA] at h
  case add =>
    refine retC_pure h fun hc => ?_
    have hb := hc _ (List.mem_singleton.2 rfl)
    unfold catOk at hb
    have hb := of_decide_eq_true hb
    refine ⟨.string ⟨(s ++ u).toArray⟩, ?_, mk_str _⟩
    have h1 : (⟨s.toArray⟩ : ByteArray).size = s.length := by simp [ByteArray.size]
    have h2 : (⟨u.toArray⟩ : ByteArray).size = u.length := by simp [ByteArray.size]
    have h3 : ¬ (IntKind.max .i64 < ((s.length + u.length : Nat) : Int)) := by simp [IntKind.max, IntKind.signed, IntKind.bits]; omega
    have h4 : ((⟨s.toArray⟩ : ByteArray) ++ ⟨u.toArray⟩) = ⟨(s ++ u).toArray⟩ := by
      apply ByteArray.ext
      rw [ByteArray.data_append]
      simp
    simp only [eqGuard, binOp, Op.stringOp, h1, h2, Sem.run_bind, gt_iff_lt]
    rw [if_neg h3, h4]
    rfl
  case eql => exact retV_pure h ⟨.bool (s == u), by simp [eqGuard, binOp, Op.stringOp], by rw [beq_dec]; exact mk_bool _⟩
  case neq => exact retV_pure h ⟨.bool (!(s == u)), by simp [eqGuard, binOp, Op.stringOp], by rw [beq_dec]; exact mk_bool _⟩
  case lss => exact retV_pure h ⟨_, by simp [eqGuard, binOp, Op.stringOp], mk_bool _⟩
  case leq => exact retV_pure h ⟨.bool (Op.bytesLess s u || s == u), by simp [eqGuard, binOp, Op.stringOp], by rw [beq_dec]; exact mk_bool _⟩
  case gtr => exact retV_pure h ⟨.bool (!(Op.bytesLess s u || s == u)), by simp [eqGuard, binOp, Op.stringOp], by rw [beq_dec]; exact mk_bool _⟩
  case geq => exact retV_pure h ⟨_, by simp [eqGuard, binOp, Op.stringOp], mk_bool _⟩
  all_goals (cases h)
theorem equal_bool {t : Nat} (a b : Bool) (ht : P.underlying t = some .bool) : (Op.equal t (.bool a) (.bool b)).run P w = .ok (a == b) w := by
  have : ∀ d, (Op.equalIn (d + 1) t (.bool a) (.bool b)).run P w = .ok (a == b) w := fun d => by
    rw [Op.equalIn, Sem.run_bind, run_under ht, Result.andThen_ok]
    rfl
  exact this 9999
theorem boolA_run {op : BinOp} {a b : Bool} {out : Out} {t : Nat} (h : boolA op a b = some out) (ht : P.underlying t = some .bool) (X Y : Operand) :
    PureO out (Reads P (do eqGuard op t X Y (.bool a) (.bool b); binOp op t (.bool a) (.bool b)) g O w) := by
  cases op <;> simp only [boolA] at h
  case eql => exact retV_pure h ⟨.bool (a == b), by simp only [eqGuard, binOp, Sem.run_bind, equal_bool a b ht, Sem.run_ite]; rfl, mk_bool _⟩
  case neq => exact retV_pure h ⟨.bool (!(a == b)), by simp only [eqGuard, binOp, Sem.run_bind, equal_bool a b ht, Sem.run_ite]; rfl, mk_bool _⟩
  all_goals (cases h)
theorem leaf_eq {a : DTy} {t : TypeId} (h : leafB P a t = true) {x y : a.den} {u v : Value} (hx : CRel g.hw w a x [u]) (hy : CRel g.hw w a y [v]) (d : Nat) :
    (isAgg t).run P w = .ok false w ∧ (Op.equalIn (d + 1) t u v).run P w = .ok (eqD a x y) w := by
  cases a with
  | int k =>
    simp only [leafB] at h
    split at h
    · rename_i k' hu
      have := of_decide_eq_true h
      subst this
      rw [CRel] at hx hy
      cases hx
      cases hy
      refine ⟨by simp [isAgg, run_under hu], ?_⟩
      rw [run_equalIn_int w d t k k x y hu, beq_dec]
      rfl
    · cases h
  | bool =>
    simp only [leafB] at h
    split at h
    · rename_i hu
      rw [CRel] at hx hy
      cases hx
      cases hy
      exact ⟨by simp [isAgg, run_under hu], run_equalIn_bool' w d t x y hu⟩
    · cases h
  | str =>
    simp only [leafB] at h
    split at h
    · rename_i hu
      rw [CRel] at hx hy
      cases hx
      cases hy
      refine ⟨by simp [isAgg, run_under hu], ?_⟩
      rw [run_equalIn_string w d t _ _ hu, ByteArray.toList_eq, ByteArray.toList_eq, beq_dec]
      rfl
    · cases h
  | _ => cases h
theorem fields_eq : ∀ {τ : DTy} {fs : List Field} {o : Nat} {x y : τ.den} {xs ys : Array Value} {d : Nat}, flatB P τ fs o = true → CRel g.hw w τ x (xs.toList.drop o) → CRel g.hw w τ y (ys.toList.drop o) →
    (Op.eqFields (d + 1) xs ys fs).run P w = .ok (eqD τ x y) w := by
  intro τ
  induction τ with
  | prod a b iha ihb =>
    intro fs o x y xs ys d h hx hy
    cases fs with
    | nil => simp [flatB] at h
    | cons f r =>
      unfold flatB at h
      simp only [Bool.and_eq_true] at h
      obtain ⟨h1, h2, h3, h4⟩ := h
      have h1 : f.name ≠ "_" := by simpa using h1
      have h2 := Nat.eq_of_beq_eq_true h2
      have hs : a.size = 1 := by cases a <;> first | rfl | (unfold leafB at h3; cases h3)
      rw [CRel] at hx hy
      obtain ⟨c1, c2, e1, hx1, hx2⟩ := hx
      obtain ⟨c3, c4, e2, hy1, hy2⟩ := hy
      have l1 := hx1.length
      have l2 := hy1.length
      rw [hs] at l1 l2
      match c1, c3, l1, l2 with
      | [u], [v], _, _ =>
      have lx : xs[o]? = some u ∧ xs.toList.drop (o + 1) = c2 := by
        constructor
        · have := congrArg (fun l => l[0]?) e1
          simpa using this
        · have := congrArg (List.drop 1) e1
          simpa using this
      have ly : ys[o]? = some v ∧ ys.toList.drop (o + 1) = c4 := by
        constructor
        · have := congrArg (fun l => l[0]?) e2
          simpa using this
        · have := congrArg (List.drop 1) e2
          simpa using this
      obtain ⟨k1, k2⟩ := leaf_eq h3 hx1 hy1 d
      have ih := ihb (d := d) h4 (by rw [lx.2]; exact hx2) (by rw [ly.2]; exact hy2)
      have p1 : (part f.type xs f.offset).run P w = .ok u w := by rw [h2]; simp [part, k1, lx.1]
      have p2 : (part f.type ys f.offset).run P w = .ok v w := by rw [h2]; simp [part, k1, ly.1]
      rw [Op.eqFields, if_pos h1]
      simp only [Sem.run_bind, p1, p2, k2, Result.andThen_ok]
      show _ = Result.ok (eqD a x.1 y.1 && eqD b x.2 y.2) w
      cases eqD a x.1 y.1
      · simp
      · simpa using ih
  | unit =>
    intro fs o x y xs ys d h _ _
    cases fs with
    | nil => simp [Op.eqFields, eqD]
    | cons _ _ => simp [flatB] at h
  | _ => intro fs o x y xs ys d h; cases fs <;> simp [flatB] at h
theorem flat_agg {τ : DTy} {fs : List Field} {o : Nat} (h : flatB P τ fs o = true) : τ.agg = true := by
  cases τ with
  | prod _ _ => rfl
  | unit => rfl
  | _ => cases fs <;> simp [flatB] at h
theorem eqA_same (hty : ∀ t r, E.ty t = some r → TyOk P E t r) {op : BinOp} {t : Nat} {τ : DTy} {x y : τ.den} {vx vy : Value} {out : Out} {r : TyRow} (hr : E.ty t = some r) (h1 : r.eq = true) (hd : r.dty = some τ)
    (h : (match op with
      | .eql => retV (.d .bool (eqD τ x y))
      | .neq => retV (.d .bool (!eqD τ x y))
      | _ => none) = some out) (hx : ARel g O w (.d τ x) vx) (hy : ARel g O w (.d τ y) vy) (X Y : Operand) :
    PureO out (Reads P (do eqGuard op t X Y vx vy; binOp op t vx vy) g O w) := by
  obtain ⟨τ0, ht0, fs, hu, hp, hm, hf⟩ := (hty t r hr).eq h1
  have hd0 : τ0 = τ := by rw [ht0] at hd; injection hd
  rw [hd0] at hf
  have hag := flat_agg hf
  obtain ⟨cx, hcx, rfl⟩ := arel_d hx
  obtain ⟨cy, hcy, rfl⟩ := arel_d hy
  rw [wrapV_agg hag, wrapV_agg hag]
  have hfo : P.fieldsOf t = fs := by simp [Program.fieldsOf, hu]
  have he : (Op.equalIn 10000 t (.agg cx.toArray) (.agg cy.toArray)).run P w = .ok (eqD τ x y) w := by
    rw [run_equalIn_struct (P := P) w 9999 t cx.toArray cy.toArray (by rw [hfo]; exact hu) hp, hfo]
    exact fields_eq (d := 9998) hf (by simpa using hcx) (by simpa using hcy)
  cases op <;> try (cases h)
  case eql =>
    refine retV_pure rfl ⟨.bool (eqD τ x y), ?_, mk_bool _⟩
    simp only [Sem.run_bind, run_eqGuard_agg w .eql t X Y cx.toArray cy.toArray hm, Result.andThen_ok, run_eql_struct, he]
  case neq =>
    refine retV_pure rfl ⟨.bool (!eqD τ x y), ?_, mk_bool _⟩
    simp only [Sem.run_bind, run_eqGuard_agg w .neq t X Y cx.toArray cy.toArray hm, Result.andThen_ok, run_neq_struct, he]
theorem eqA_run (hty : ∀ t r, E.ty t = some r → TyOk P E t r) {op : BinOp} {t : Nat} {τ τ' : DTy} {x : τ.den} {y : τ'.den} {vx vy : Value} {out : Out} (h : eqA E op t τ x τ' y = some out) (hx : ARel g O w (.d τ x) vx) (hy : ARel g O w (.d τ' y) vy) (X Y : Operand) :
    PureO out (Reads P (do eqGuard op t X Y vx vy; binOp op t vx vy) g O w) := by
  unfold eqA at h
  obtain ⟨r, hr, h⟩ := bind_someO h
  obtain ⟨hc, h⟩ := ifO_some h
  obtain ⟨y', hy', h⟩ := bind_someO h
  rw [Bool.and_eq_true] at hc
  have hd := of_decide_eq_true hc.2
  obtain ⟨e, rfl⟩ := castD_some hy'
  cases e
  exact eqA_same hty hr hc.1 hd h hx hy X Y
theorem binA_run (hty : ∀ t r, E.ty t = some r → TyOk P E t r) {op : BinOp} {t : Nat} {x y : AVal} {vx vy : Value} {out : Out} (h : binA E op t x y = some out) (hx : ARel g O w x vx) (hy : ARel g O w y vy) (X Y : Operand) :
    PureO out (Reads P (do eqGuard op t X Y vx vy; binOp op t vx vy) g O w) := by
  unfold binA at h
  split at h
  · rename_i k a k' b
    rw [arel_int hx, arel_int hy]
    cases hs : BinOp.isSh op with
    | true => rw [hs] at h; exact shA_run h t X Y
    | false =>
      rw [hs] at h
      obtain ⟨hk, h⟩ := ifO_some h
      obtain rfl := of_decide_eq_true hk
      exact intA_run h hs t X Y
  · rw [arel_str hx, arel_str hy]
    exact strA_run h t X Y
  · rw [arel_bool hx, arel_bool hy]
    obtain ⟨r, hr, h⟩ := bind_someO h
    obtain ⟨hb, h⟩ := ifO_some h
    obtain ⟨d, h1, h2⟩ := (hty t r hr).desc
    cases hk : r.kind <;> rw [hk] at hb h2 <;> simp [TK.isBool] at hb
    rw [DescIs] at h2
    subst h2
    exact boolA_run h h1 X Y
  · exact eqA_run hty h hx hy X Y
  · cases h
theorem unA_run {op : UnOp} {x : AVal} {vx : Value} {out : Out} (h : unA op x = some out) (hx : ARel g O w x vx) : PureO out (Reads P (Op.unary op vx) g O w) := by
  unfold unA at h
  split at h
  · rw [arel_bool hx]; exact retV_pure h ⟨_, by simp [Op.unary], mk_bool _⟩
  · rw [arel_int hx]; exact retV_pure h ⟨_, by simp [Op.unary, Op.intArith], mk_int _ _⟩
  · cases h
end
end Go.Proofs.Ytgmjbnglenmlpaa.Ab
end
section
/- The abstract machine: more operations that leave the world alone. -/
set_option linter.unusedVariables false
set_option linter.unusedSimpArgs false
namespace Go.Proofs.Ytgmjbnglenmlpaa.Ab
open Go Go.RowKit
section
variable {P : Program} {E : Env} {g : G} {O : Nat → AObj} {w : World}
theorem elemOf_some (hty : ∀ t r, E.ty t = some r → TyOk P E t r) {t : Nat} {p : Nat × TyRow × DTy} (h : elemOf E t = some p) :
    P.underlying t = some (.slice p.1) ∧ TyOk P E p.1 p.2.1 ∧ p.2.1.dty = some p.2.2 := by
  unfold elemOf at h
  obtain ⟨r, hr, h⟩ := bind_some h
  obtain ⟨e, he, h⟩ := bind_some h
  obtain ⟨q, hq, h⟩ := bind_some h
  obtain ⟨τ, hτ, rfl⟩ := Option.map_eq_some_iff.1 h
  obtain ⟨d, h1, h2⟩ := (hty t r hr).desc
  cases hk : r.kind <;> rw [hk] at he h2 <;> simp [TK.elem] at he
  subst he
  rw [DescIs] at h2
  subst h2
  exact ⟨h1, hty _ _ hq, hτ⟩
theorem str_desc (hty : ∀ t r, E.ty t = some r → TyOk P E t r) {t : Nat} {r : TyRow} (h : E.ty t = some r) (hs : r.kind.isStr = true) : P.underlying t = some .string := by
  obtain ⟨d, h1, h2⟩ := (hty t r h).desc
  cases hk : r.kind <;> rw [hk] at hs h2 <;> simp [TK.isStr] at hs
  rw [DescIs] at h2
  subst h2
  exact h1
theorem u8_desc (hty : ∀ t r, E.ty t = some r → TyOk P E t r) {t : Nat} {r : TyRow} (h : TyOk P E t r) (hs : r.kind.isU8 = true) : P.underlying t = some (.int .u8) := by
  obtain ⟨d, h1, h2⟩ := h.desc
  cases hk : r.kind with
  | int k => rw [hk] at hs h2; cases k <;> simp [TK.isU8] at hs; rw [DescIs] at h2; subst h2; exact h1
  | _ => rw [hk] at hs; simp [TK.isU8] at hs
theorem arel_agg {l : List AVal} {v : Value} (h : ARel g O w (.agg l) v) : ∃ vs, v = .agg vs := by cases h; exact ⟨_, rfl⟩
theorem loadCells_holds {b o : Nat} {cs : List Value} {n : Nat} (h : Holds w b o cs) (hn : n = cs.length) : (loadCells ⟨b, o, none⟩ n).run P w = .ok cs.toArray w := by
  subst hn
  exact run_loadCells_list w _ cs (fun j v hv => by
    rw [addr_add]
    rw [h j (List.getElem?_eq_some_iff.1 hv).1]
    exact hv)
theorem load_holds {b o : Nat} {c : Value} (h : Holds w b o [c]) : (load ⟨b, o, none⟩).run P w = .ok c w := by
  have := h 0 (by simp)
  simp at this
  simp [this]
theorem push_all (l : List Int) : ∀ (s : ByteArray), l.foldl (fun r n => r.push (UInt8.ofNat n.toNat)) s = ⟨(s.data.toList ++ textOf l).toArray⟩ := by
  induction l with
  | nil => intro s; simp [textOf]
  | cons n l ih => intro s; rw [List.foldl_cons, ih]; simp [textOf, ByteArray.push]
theorem u8s {l : List (DTy.int .u8).den} {cs : List Value} (h : CRels g.hw w (.int .u8) l cs) : cs = List.map (fun n => Value.int .u8 n) l := by
  induction h with
  | nil => rfl
  | cons h _ ih => rw [CRel] at h; subst h; rw [ih]; rfl
theorem bytes_run {l : (DTy.slice (.int .u8)).den} {v : Value} (h : CRel g.hw w (.slice (.int .u8)) l [v]) : (Conv.bytesToString v).run P w = .ok (.string ⟨(textOf l).toArray⟩) w := by
  obtain ⟨A, c, rfl, hc, hh⟩ := slice_open h
  have hp := push_all l ByteArray.empty
  have he : (ByteArray.empty.data.toList : List UInt8) = [] := rfl
  rw [he, List.nil_append] at hp
  cases A with
  | none =>
    have hl : l = [] := by
      rcases hh with h | ⟨b, o, cs, h, _⟩
      · exact h
      · cases h
    subst hl
    rfl
  | some a =>
    rw [← hp]
    apply run_bytesToString
    rcases hh with rfl | ⟨b, o, cs, ha, h1, h2, h3⟩
    · rfl
    · cases ha
      rw [u8s h1] at h2
      exact loadCells_holds h2 (by simp)
theorem convA_run (hty : ∀ t r, E.ty t = some r → TyOk P E t r) {s t : Nat} {x : AVal} {vx : Value} {out : Out} (h : convA E s t x = some out) (hx : ARel g O w x vx) : PureO out (Reads P (convert s t vx) g O w) := by
  unfold convA at h
  obtain ⟨a, ha, h⟩ := bind_someO h
  obtain ⟨b, hb, h⟩ := bind_someO h
  obtain ⟨da, ha1, ha2⟩ := (hty s a ha).desc
  split at h
  · rename_i k n
    obtain ⟨k', hk, h⟩ := bind_someO h
    obtain ⟨d, h1, h2⟩ := (hty t b hb).desc
    cases hkk : b.kind <;> rw [hkk] at hk h2 <;> simp [TK.int?] at hk
    subst hk
    rw [DescIs] at h2
    subst h2
    rw [arel_int hx]
    refine retV_pure h ⟨_, ?_, mk_int _ _⟩
    simp only [convert, Sem.run_bind, run_under ha1, run_under h1, Result.andThen_ok]
    rfl
  · rename_i l
    obtain ⟨hc, h⟩ := ifO_some h
    simp only [Bool.and_eq_true] at hc
    have e1 := str_desc hty ha hc.1
    have e2 := str_desc hty hb hc.2
    rw [arel_str hx]
    refine retV_pure h ⟨_, ?_, mk_str _⟩
    simp only [convert, Sem.run_bind, run_under e1, run_under e2, Result.andThen_ok]
    rfl
  · obtain ⟨hc, h⟩ := ifO_some h
    obtain ⟨p, hp, h⟩ := bind_someO h
    obtain ⟨hu, h⟩ := ifO_some h
    obtain ⟨l, hl, h⟩ := bind_someO h
    have e2 := str_desc hty hb hc
    obtain ⟨e1, h2, _⟩ := elemOf_some hty hp
    have e3 := u8_desc hty h2 hu
    have hc := as_slc hl hx
    refine retV_pure h ⟨_, ?_, mk_str _⟩
    have hb := bytes_run (P := P) hc
    obtain ⟨A, c, rfl, _⟩ := slice_open hc
    rw [run_convert_bytes_string w _ _ _ _ _ _ e1 e3 e2]
    exact hb
theorem ext_list (s : List UInt8) (i j : Nat) : (⟨s.toArray⟩ : ByteArray).extract i j = ⟨((s.take j).drop i).toArray⟩ := by
  apply ByteArray.ext
  apply Array.toList_inj.1
  rw [Lib.extract_data]
  simp only [List.drop_take]
/-- The bounds of a cut. -/
theorem bound_run {x : AVal} {n : Int} {v : Value} (h : intOfA x = some n) (hx : ARel g O w x v) : ∃ k, v = .int k n := by
  unfold intOfA at h
  split at h
  · cases h; exact ⟨_, arel_int hx⟩
  · cases h
def lowN : Option Int → Nat
  | none => 0
  | some i => i.toNat
def highN (len : Nat) : Option Int → Nat
  | none => len
  | some j => j.toNat
theorem cut_eq {α : Type} (s : List α) (i j : Option Int) : cutL s i j = (s.take (highN s.length j)).drop (lowN i) := by
  cases i <;> cases j <;> simp [cutL, lowN, highN]
theorem cut_low {len : Nat} {i j : Option Int} (hc : ∀ b, b ∈ cutConds len i j → b = true) : lowN i ≤ highN len j ∧ highN len j ≤ len := by
  cases i <;> cases j <;> simp [cutConds, lowN, highN] at hc ⊢ <;> omega
/-- An operand that isn't there, or is there. -/
def OptR (g : G) (O : Nat → AObj) (w : World) : Option AVal → Option Value → Prop
  | none, none => True
  | some u, some v => ARel g O w u v
  | _, _ => False
theorem opt_bound {lo : Option AVal} {vl : Option Value} {i : Option Int} (h : boundA lo = some i) (hl : OptR g O w lo vl) : (vl = none ∧ i = none) ∨ ∃ k n, vl = some (.int k n) ∧ i = some n := by
  cases lo with
  | none =>
    cases vl with
    | some _ => exact hl.elim
    | none => cases h; exact .inl ⟨rfl, rfl⟩
  | some u =>
    cases vl with
    | none => exact hl.elim
    | some v =>
      unfold boundA at h
      obtain ⟨n, hn, rfl⟩ := Option.map_eq_some_iff.1 h
      obtain ⟨k, rfl⟩ := bound_run hn hl
      exact .inr ⟨k, n, rfl, rfl⟩
theorem bounds_run {isS : Bool} {len cap : Nat} {vl vh : Option Value} {i j : Option Int} (h1 : (vl = none ∧ i = none) ∨ ∃ k n, vl = some (.int k n) ∧ i = some n) (h2 : (vh = none ∧ j = none) ∨ ∃ k n, vh = some (.int k n) ∧ j = some n)
    (hc : ∀ b, b ∈ cutConds len i j → b = true) (hcap : len ≤ cap) : (Instr.sliceBounds isS len cap vl vh none).run P w = .ok (lowN i, highN len j, cap) w := by
  unfold Instr.sliceBounds
  rcases h1 with ⟨rfl, rfl⟩ | ⟨k, n, rfl, rfl⟩ <;> rcases h2 with ⟨rfl, rfl⟩ | ⟨k', m, rfl, rfl⟩ <;> simp [cutConds] at hc
  · simp [lowN, highN]
  · simp only [Sem.run_bind, Sem.run_pure, Result.andThen_ok, run_sliceBound w k' m cap _ hc.1 (by omega), highN, lowN]
  · simp only [Sem.run_bind, Sem.run_pure, Result.andThen_ok, run_sliceBound w k n len _ hc.1 (by omega), highN, lowN]
  · simp only [Sem.run_bind, Sem.run_pure, Result.andThen_ok, run_sliceBound w k' m cap _ hc.1 (by omega), run_sliceBound w k n m.toNat _ hc.2.2.1 (by omega), highN, lowN]
theorem opSlice_run (hty : ∀ t r, E.ty t = some r → TyOk P E t r) {t : Nat} {x : AVal} {lo hi : Option AVal} {vx : Value} {vl vh : Option Value} {out : Out} (h : opSlice E t x lo hi = some out) (hx : ARel g O w x vx)
    (hl : OptR g O w lo vl) (hh : OptR g O w hi vh) : PureO out (Reads P (Instr.sliceAt t vx vl vh none) g O w) := by
  unfold opSlice at h
  obtain ⟨r, hr, h⟩ := bind_someO h
  obtain ⟨i, hi1, h⟩ := bind_someO h
  obtain ⟨j, hj1, h⟩ := bind_someO h
  have b1 := opt_bound hi1 hl
  have b2 := opt_bound hj1 hh
  split at h
  · rename_i s _ _ _
    obtain ⟨hs, h⟩ := ifO_some h
    have hu := str_desc hty hr hs
    rw [arel_str hx]
    refine retC_pure h fun hc => ?_
    have hsz : (⟨s.toArray⟩ : ByteArray).size = s.length := by simp [ByteArray.size]
    have hb := bounds_run (P := P) (w := w) (isS := false) (cap := s.length) b1 b2 hc (Nat.le_refl _)
    refine ⟨.string ⟨(cutL s i j).toArray⟩, ?_, mk_str _⟩
    rw [cut_eq, ← ext_list]
    simp only [Instr.sliceAt, Instr.slice, Sem.run_bind, run_under hu, Result.andThen_ok, hsz, hb, Option.isSome_none, Bool.false_eq_true, if_false, Sem.run_pure]
  · obtain ⟨p, hp, h⟩ := bind_someO h
    obtain ⟨l, hl1, h⟩ := bind_someO h
    obtain ⟨hu, hq, hd⟩ := elemOf_some hty hp
    have hcr := as_slc hl1 hx
    refine retC_pure h fun hc => ?_
    obtain ⟨A, c, rfl, hlc, hcells⟩ := slice_open hcr
    have hb := bounds_run (P := P) (w := w) (isS := true) (cap := c) b1 b2 hc hlc
    have hlow := cut_low hc
    have hsz := (hq.dty _ hd).1
    refine ⟨.slice (if c = lowN i then A else A.map (·.add (lowN i * p.2.1.size))) (highN (List.length l) j - lowN i) (c - lowN i), ?_, ?_⟩
    · simp only [Instr.sliceAt, Instr.slice, Sem.run_bind, run_under hu, Result.andThen_ok, hb, hq.sizeOf, Sem.run_pure]
    · refine arel_of_leaf rfl ?_
      rw [cut_eq]
      refine slice_part hcr _ _ _ hlow.1 hlow.2 (by omega) _ fun hlt => ?_
      rw [if_neg (by omega), hsz]
theorem opLen_run (hty : ∀ t r, E.ty t = some r → TyOk P E t r) {t ty : Nat} {x : AVal} {vx : Value} {out : Out} (h : opLen E t x = some out) (hx : ARel g O w x vx) : PureO out (Reads P (Builtin.len_ #[t] ty #[vx]) g O w) := by
  unfold opLen at h
  obtain ⟨r, hr, h⟩ := bind_someO h
  split at h
  · rename_i s _
    obtain ⟨hs, h⟩ := ifO_some h
    have hu := str_desc hty hr hs
    rw [arel_str hx]
    refine retV_pure h ⟨_, ?_, mk_int _ _⟩
    have hsz : (⟨s.toArray⟩ : ByteArray).size = s.length := by simp [ByteArray.size]
    simp [Builtin.len_, run_under hu, hsz, goInt]
  · obtain ⟨p, hp, h⟩ := bind_someO h
    obtain ⟨l, hl1, h⟩ := bind_someO h
    obtain ⟨hu, hq, hd⟩ := elemOf_some hty hp
    obtain ⟨A, c, rfl, hlc, hcells⟩ := slice_open (as_slc hl1 hx)
    refine retV_pure h ⟨_, ?_, mk_int _ _⟩
    simp [Builtin.len_, run_under hu, goInt]
theorem opIndexAddr_run (hty : ∀ t r, E.ty t = some r → TyOk P E t r) {t : Nat} {x i : AVal} {vx vi : Value} {out : Out} (h : opIndexAddr E t x i = some out) (hx : ARel g O w x vx) (hi : ARel g O w i vi) : PureO out (Reads P (Instr.indexAt t vx vi) g O w) := by
  unfold opIndexAddr at h
  obtain ⟨p, hp, h⟩ := bind_someO h
  obtain ⟨n, hn, h⟩ := bind_someO h
  obtain ⟨l, hl1, h⟩ := bind_someO h
  obtain ⟨hu, hq, hd⟩ := elemOf_some hty hp
  obtain ⟨k, rfl⟩ := bound_run hn hi
  have hcr := as_slc hl1 hx
  refine retC_pure h fun hc => ?_
  simp at hc
  obtain ⟨A, c, rfl, hlc, hcells⟩ := slice_open hcr
  have hsz := (hq.dty _ hd).1
  rcases hcells with rfl | ⟨b, o, cs, rfl, h1, h2, h3⟩
  · simp at hc; omega
  · have hlt : n.toNat < List.length l := by omega
    refine ⟨.pointer (some ⟨b, o + n.toNat * p.2.2.size, none⟩), ?_, .cp (h1.get _ hlt) (h2.part _ _) ?_⟩
    · simp only [Instr.indexAt, asIntOf, Sem.run_bind, Sem.run_pure, Result.andThen_ok, run_under hu, hc.1, hc.2, and_self, if_true, hq.sizeOf, addr_add, hsz]
    · have : (n.toNat + 1) * p.2.2.size ≤ List.length l * p.2.2.size := Nat.mul_le_mul_right _ hlt
      rw [Nat.add_mul] at this
      omega
theorem opIndex_run (hty : ∀ t r, E.ty t = some r → TyOk P E t r) {t : Nat} {x i : AVal} {vx vi : Value} {out : Out} (h : opIndex E t x i = some out) (hx : ARel g O w x vx) (hi : ARel g O w i vi) : PureO out (Reads P (Instr.index t vx vi) g O w) := by
  unfold opIndex at h
  obtain ⟨r, hr, h⟩ := bind_someO h
  obtain ⟨n, hn, h⟩ := bind_someO h
  obtain ⟨k, rfl⟩ := bound_run hn hi
  split at h
  · rename_i s _ _
    obtain ⟨hs, h⟩ := ifO_some h
    have hu := str_desc hty hr hs
    rw [arel_str hx]
    refine retC_pure h fun hc => ?_
    simp at hc
    have hlt : n.toNat < s.length := by omega
    refine ⟨_, ?_, mk_int _ _⟩
    have hg : (⟨s.toArray⟩ : ByteArray)[n.toNat]? = some (s.getD n.toNat 0) := by
      rw [getElem?_pos _ _ (by simpa [ByteArray.size] using hlt), List.getD_eq_getElem?_getD, List.getElem?_eq_getElem hlt]
      rfl
    simp only [Instr.index, asIntOf, Sem.run_bind, Sem.run_pure, Result.andThen_ok, run_under hu, hc.1, if_true, hg]
  · cases h
end
end Go.Proofs.Ytgmjbnglenmlpaa.Ab
end
