import Derived.RangeFuncNested
import Derived.RangeFuncBound
import Derived.RangeFuncCalls
import Derived.RangeFuncLeaves
section
/- Loops over an iterator that keeps state of its own in cells: its contract, and what a caller owes. No program in sight. -/
namespace Go.Proofs.Ytgmjbnglenmlpaa.RF
open Go Go.RowKit
variable {F : Fence} {n : Nat} {P : Program} {α : Type}
/-- A step of the world that turns at most one block: one of the iterator's own, or one from B on that is no cells. -/
def Turn (own : Nat → Prop) (B : Nat) (W W' : World) : Prop :=
  ∃ row, W.grownBy W' row ∧ ∀ r, row = some r → own r ∨ B ≤ r ∧ ∃ o : Obj, W.heap[r]? = some o ∧ o.isCells = false
/-- A step of the iterator's own. -/
def Step (own : Nat → Prop) (W W' : World) : Prop := ∃ row, W.grownBy W' row ∧ ∀ r, row = some r → own r
theorem Step.turn {own : Nat → Prop} {B : Nat} {W W' : World} (h : Step own W W') : Turn own B W W' := by
  obtain ⟨row, hg, hr⟩ := h
  exact ⟨row, hg, fun r e => .inl (hr r e)⟩
theorem Turn.alloc {own : Nat → Prop} {B : Nat} (W : World) (o : Obj) : Turn own B W (W.alloc o) := ⟨none, World.grownBy_alloc W o none, fun _ e => by cases e⟩
theorem Turn.put {own : Nat → Prop} {B l : Nat} {W : World} {o : Obj} (o' : Obj) (hB : B ≤ l) (hl : W.heap[l]? = some o) (ho : o.isCells = false) : Turn own B W (W.putObj l o') :=
  ⟨some l, grownBy_putObj' W l o', fun r e => by cases e; exact .inr ⟨hB, o, hl, ho⟩⟩
/-- The iterator's contract: it hands out xs, in order, as long as it is asked. -/
def Yields (F : Fence) (n : Nat) (P : Program) (g : Nat) (lb : Array Value) (own : Nat → Prop) (encs : α → Array Value) (Kp : World → World → Prop) (xs : List α) (w : World) : Prop :=
  ∀ (l : Nat) (J Jx : List α → World → Prop) (W : World), Below w.heap.size w W →
    (∀ s A B, Step own A B → J s A → J s B) → (∀ s A B, Step own A B → Jx s A → Jx s B) →
    (∀ pre x W1, pre ++ [x] <+: xs → J pre W1 → YieldAt F (n - 1) P l (encs x) W1 fun e W' =>
      (e = .returned (.bool true) ∧ J (pre ++ [x]) W' ∧ Kp W1 W') ∨ (e = .returned (.bool false) ∧ Jx (pre ++ [x]) W')) →
    J [] W →
    CallsIn F n P g (#[.func (.yield l) #[] #[]] ++ lb) W fun e W' => (∃ v, e = .returned v) ∧ (J xs W' ∨ ∃ pre, pre <+: xs ∧ Jx pre W')
/-- How the body of a round may be left. -/
def After (B : Nat) (Kp : World → World → Prop) (I : List α → World → Prop) (Ix : Code → List α → World → Prop) (xs : List α) (W : World) : Exit → Act → World → Prop
  | .normal, _, W' => KeepsFrom B W W' ∧ Kp W W' ∧ I xs W'
  | .ret, _, W' => KeepsFrom B W W' ∧ Ix .ret xs W'
  | .exit id, _, W' => KeepsFrom B W W' ∧ Ix (.exit id) xs W'
  | .goto _, _, _ => False
  | .panic _, _, _ => False
  | .outgrown, _, _ => False
theorem Turn.boxed {own : Nat → Prop} {B : Nat} {X Y : World} (h : Turn own B X Y) {b : Nat} {t : TypeId} {v : Value} (hb : Boxed X b t v) (hn : ¬ own b) (hlt : b < B) : Boxed Y b t v := by
  obtain ⟨row, hg, hr⟩ := h
  refine hb.kept hg fun e => ?_
  rcases hr b e.symm with h | h
  · exact hn h
  · omega
theorem Turn.below {own : Nat → Prop} {B n₀ : Nat} {w X Y : World} (h : Turn own B X Y) (hb : Below n₀ w X) (hn : n₀ ≤ w.heap.size) (hown : ∀ r, own r → n₀ ≤ r) (hB : n₀ ≤ B) : Below n₀ w Y := by
  obtain ⟨row, hg, hr⟩ := h
  refine hb.grown hg (Nat.le_trans hn hb.size) fun k e => ?_
  rcases hr k e with h | h
  · exact hown k h
  · omega
theorem Turn.block {own : Nat → Prop} {B : Nat} {X Y : World} (h : Turn own B X Y) {b : Nat} {o : Obj} (hb : X.heap[b]? = some o) (hn : ¬ own b) (hlt : b < B) : Y.heap[b]? = some o := by
  obtain ⟨row, hg, hr⟩ := h
  refine (hg.block b (Array.getElem?_eq_some_iff.1 hb).1 fun e => ?_).trans hb
  rcases hr b e.symm with h | h
  · exact hn h
  · omega
/-- What a caller owes. -/
theorem range_own {g : Operand} {ps : Array Tmp} {assign body : Code} {Q : Exit → Act → World → Prop} {a : Act} {w : World}
    (hro : F.round = none) (h1 : 1 ≤ n) {gf : Nat} {lb : Array Value} (hg : a.eval g = .func (.func gf) #[] lb) (hFg : F.fn gf) (eg : ∀ args w, (callFunc gf args).run P w = .ok (.enter gf args) w)
    {own : Nat → Prop} {encs : α → Array Value} {Kp : World → World → Prop} {xs : List α} {w0 : World} (hseq : Yields F (n - 1) P gf lb own encs Kp xs w0) (hown : ∀ r, own r → r < w.heap.size)
    (hKt : ∀ {A B C : World}, Kp A B → Kp B C → Kp A C) (hKb : ∀ (W : World) (l : Nat) (o : Obj), w.heap.size ≤ l → Kp W (W.putObj l o)) (hb0 : Below w0.heap.size w0 w) (hps : ∀ x, (encs x).size = ps.size)
    (I : List α → World → Prop) (Ix : Code → List α → World → Prop) (hI : ∀ s A B, Turn own w.heap.size A B → I s A → I s B) (hIx : ∀ c s A B, Turn own w.heap.size A B → Ix c s A → Ix c s B) (h0 : I [] w)
    (hround : ∀ (l : Nat) (pre : List α) (x : α) (W : World), pre ++ [x] <+: xs → w.heap.size ≤ l → I pre W →
      assign.wpIn (F.inRound l) (n - 1 - 1) P (Exit.then (fun a' W' => KeepsFrom w.heap.size W W' ∧ Kp W W' ∧ ∀ Wb, Turn own w.heap.size W' Wb → (∃ r, Wb.heap[l]? = some (.loop r)) → body.wpIn (F.inRound l) (n - 1 - 1) P (After w.heap.size Kp I Ix (pre ++ [x]) Wb) a' Wb) (fun _ _ _ => False))
        { tmps := (ps.zip (encs x)).foldl (fun t (p, v) => t.setIfInBounds p v) a.tmps, defers := [] } W)
    (hdone : ∀ (D : Nat) (W : World), w.heap.size ≤ D → I xs W → W.heap[D]? = some (.deferred (some [])) → Q .normal { a with defers := { target := .collected D, args := #[] } :: a.defers } W)
    (hstop : ∀ (D : Nat) (c : Code) (pre : List α) (W : World), w.heap.size ≤ D → pre <+: xs → Ix c pre W → W.heap[D]? = some (.deferred (some [])) → c.wpIn F n P Q { a with defers := { target := .collected D, args := #[] } :: a.defers } W) :
    (Code.rangeFunc g ps assign body).wpIn F n P Q a w := by
  refine wpIn_rangeFunc fun fn hfn => ?_
  rw [hro]
  -- the loop's record, and the two blocks that are laid
  let rec_ : LoopState → Option Code → Loop := fun st pe => { state := st, pending := pe, fn, tmps := a.tmps, params := ps, assign, body, defers := w.heap.size }
  have hd : ∀ st pe, rec_ st pe = { state := st, pending := pe, fn, tmps := a.tmps, params := ps, assign, body, defers := w.heap.size } := fun _ _ => rfl
  generalize rec_ = R at hd
  clear rec_
  obtain ⟨W1, hW1⟩ : ∃ W1, W1 = (w.alloc (.deferred (some []))).alloc (.loop (R .ready none)) := ⟨_, rfl⟩
  have sz : W1.heap.size = w.heap.size + 2 := by rw [hW1]; simp
  have hL : W1.heap[w.heap.size + 1]? = some (.loop (R .ready none)) := by
    have := World.alloc_heap_new (w.alloc (.deferred (some []))) (.loop (R .ready none))
    rwa [World.size_alloc, ← hW1] at this
  have hD : W1.heap[w.heap.size]? = some (.deferred (some [])) := by
    rw [hW1]; exact (Below.heap_alloc _ _ _ (by simp)).trans (World.alloc_heap_new w _)
  have hbW : Below w0.heap.size w0 W1 := by
    rw [hW1]; exact hb0.trans ((((Below.refl _ w).alloc (Nat.le_refl _) _).alloc (by simp) _).mono hb0.size)
  have hI1 : I [] W1 := by rw [hW1]; exact hI _ _ _ (Turn.alloc _ _) (hI _ _ _ (Turn.alloc _ _) h0)
  -- a step of the iterator leaves what isn't its own
  have stay : ∀ {A B : World} {k : Nat} {o : Obj}, w.heap.size ≤ k → Step own A B → A.heap[k]? = some o → B.heap[k]? = some o := by
    rintro A B k o hk ⟨row, hg', hr⟩ ho
    exact (hg'.block k (Array.getElem?_eq_some_iff.1 ho).1 (fun e => by have := hown k (hr k e.symm); omega)).trans ho
  refine ⟨w.heap.size + 1, [{ target := .collected w.heap.size, args := #[] }], W1, { target := .fn (.func gf) lb, args := #[.func (.yield (w.heap.size + 1)) #[] #[]] }, W1, gf,
    #[.func (.yield (w.heap.size + 1)) #[] #[]] ++ lb, W1, by rw [hW1, hd]; exact run_enterLoop_outer _ _ _ _ _, by simp only [resolve, hg]; simp [go_sem], ?_, by simp [invoke, go_sem, eg], fun _ => h1, ?_⟩
  · intro f' hf'; simp [Target.leads] at hf'; subst hf'; exact hFg
  refine (hseq (w.heap.size + 1) (fun s W => I s W ∧ W.heap[w.heap.size + 1]? = some (.loop (R .ready none)) ∧ W.heap[w.heap.size]? = some (.deferred (some [])))
    (fun s W => ∃ c, Ix c s W ∧ W.heap[w.heap.size + 1]? = some (.loop (R .done (some c))) ∧ W.heap[w.heap.size]? = some (.deferred (some []))) W1 hbW
    (fun s A B hs h => ⟨hI s A B hs.turn h.1, stay (by omega) hs h.2.1, stay (by omega) hs h.2.2⟩)
    (fun s A B hs h => by obtain ⟨c, hc, h2, h3⟩ := h; exact ⟨c, hIx c s A B hs.turn hc, stay (by omega) hs h2, stay (by omega) hs h3⟩) ?_ ⟨hI1, hL, hD⟩).mono ?_
  · -- a round
    rintro pre x W hpx ⟨hi, hl, hk⟩
    have hy := run_yield (P := P) (args := encs x) hl (by rw [hd]; exact hps x)
    refine ⟨fn, _, assign, body, by rw [hd] at hy; exact hy, roundIn_of_wpIn hfn (wpIn_mono (hround _ pre x W hpx (by omega) hi) ?_)⟩
    rintro e a' Wa hp
    cases e with
    | ret => exact hp.elim
    | exit _ => exact hp.elim
    | goto _ => exact hp.elim
    | panic _ => exact hp.elim
    | outgrown => exact hp.elim
    | normal =>
    obtain ⟨kf, kp, hbody⟩ := hp
    have hla := kf.same _ _ (by omega) hl rfl
    have hka := kf.same _ _ (Nat.le_refl _) hk rfl
    refine ⟨_, run_beginRound hla (by rw [hd]), ?_⟩
    generalize hbz : ({ R .ready none with state := .busy } : Loop) = rb
    have hl2 : (Wa.putObj (w.heap.size + 1) (.loop rb)).heap[w.heap.size + 1]? = some (.loop rb) := World.putObj_heap_same (Array.getElem?_eq_some_iff.1 hla).1
    have hk2 : (Wa.putObj (w.heap.size + 1) (.loop rb)).heap[w.heap.size]? = some (.deferred (some [])) := (World.putObj_heap_other (by omega)).trans hka
    have tb : Turn own w.heap.size Wa (Wa.putObj (w.heap.size + 1) (.loop rb)) := Turn.put _ (by omega) hla rfl
    have kb : Kp Wa (Wa.putObj (w.heap.size + 1) (.loop rb)) := hKb _ _ _ (by omega)
    refine wpIn_mono (hbody _ tb ⟨_, hl2⟩) ?_
    -- the round's end
    have fin : ∀ (j : Option Code) (W3 : World), KeepsFrom w.heap.size (Wa.putObj (w.heap.size + 1) (.loop rb)) W3 →
        (Instr.endRound (w.heap.size + 1) j).run P W3 = .ok (.bool j.isNone) (W3.putObj (w.heap.size + 1) (.loop (R (if j.isNone then .ready else .done) j))) ∧
        Turn own w.heap.size W3 (W3.putObj (w.heap.size + 1) (.loop (R (if j.isNone then .ready else .done) j))) ∧
        (W3.putObj (w.heap.size + 1) (.loop (R (if j.isNone then .ready else .done) j))).heap[w.heap.size + 1]? = some (.loop (R (if j.isNone then .ready else .done) j)) ∧
        (W3.putObj (w.heap.size + 1) (.loop (R (if j.isNone then .ready else .done) j))).heap[w.heap.size]? = some (.deferred (some [])) := by
      intro j W3 k3
      have h3 := k3.same _ _ (by omega) hl2 rfl
      have e := run_endRound (P := P) j h3
      have er : ({ rb with state := if j.isNone then .ready else .done, pending := j } : Loop) = R (if j.isNone then .ready else .done) j := by rw [← hbz, hd, hd]
      rw [er] at e
      exact ⟨e, Turn.put _ (by omega) h3 rfl, World.putObj_heap_same (Array.getElem?_eq_some_iff.1 h3).1, (World.putObj_heap_other (by omega)).trans (k3.same _ _ (Nat.le_refl _) hk2 rfl)⟩
    rintro e a3 W3 hp
    cases e with
    | normal =>
      obtain ⟨k3, kp3, i3⟩ := hp
      obtain ⟨he, t3, l3, d3⟩ := fin none W3 k3
      exact ⟨_, _, he, .inl ⟨rfl, ⟨hI _ _ _ t3 i3, l3, d3⟩, hKt kp (hKt (hKt kb kp3) (hKb _ _ _ (by omega)))⟩⟩
    | ret =>
      obtain ⟨k3, i3⟩ := hp
      obtain ⟨he, t3, l3, d3⟩ := fin (some .ret) W3 k3
      exact ⟨_, _, he, .inr ⟨rfl, .ret, hIx _ _ _ _ t3 i3, l3, d3⟩⟩
    | exit id =>
      obtain ⟨k3, i3⟩ := hp
      obtain ⟨he, t3, l3, d3⟩ := fin (some (.exit id)) W3 k3
      exact ⟨_, _, he, .inr ⟨rfl, .exit id, hIx _ _ _ _ t3 i3, l3, d3⟩⟩
    | goto t => exact hp.elim
    | panic ch => exact hp.elim
    | outgrown => exact hp.elim
  · -- behind the iterator
    rintro e W2 ⟨⟨v, rfl⟩, ⟨hi, hl, hk⟩ | ⟨pre, hpre, c, hi, hl, hk⟩⟩
    · have h := run_endLoop (P := P) hl (by rw [hd]; simp)
      exact ⟨none, _, by rw [h, hd], hdone _ _ (Nat.le_refl _) (hI _ _ _ (Turn.put _ (by omega) hl rfl) hi) ((World.putObj_heap_other (by omega)).trans hk)⟩
    · have h := run_endLoop (P := P) hl (by rw [hd]; simp)
      exact ⟨some c, _, by rw [h, hd], hstop _ c pre _ (Nat.le_refl _) hpre (hIx _ _ _ _ (Turn.put _ (by omega) hl rfl) hi) ((World.putObj_heap_other (by omega)).trans hk)⟩
end Go.Proofs.Ytgmjbnglenmlpaa.RF
end
section
/- Loops over an iterator within the round of another loop. No program in sight. -/
namespace Go.Proofs.Ytgmjbnglenmlpaa.RF
open Go Go.RowKit
variable {F : Fence} {n : Nat} {P : Program} {α : Type}
/-- The same, where the loop stands in the round of another. -/
theorem range_own_in {g : Operand} {ps : Array Tmp} {assign body : Code} {Q : Exit → Act → World → Prop} {a : Act} {w : World} {l₀ : Nat} {r₀ : Loop}
    (hro : F.round = some l₀) (hl₀ : w.heap[l₀]? = some (.loop r₀)) (h1 : 1 ≤ n) {gf : Nat} {lb : Array Value} (hg : a.eval g = .func (.func gf) #[] lb) (hFg : F.fn gf) (eg : ∀ args w, (callFunc gf args).run P w = .ok (.enter gf args) w)
    {own : Nat → Prop} {encs : α → Array Value} {Kp : World → World → Prop} {xs : List α} {w0 : World} (hseq : Yields F (n - 1) P gf lb own encs Kp xs w0) (hown : ∀ r, own r → r < w.heap.size)
    (hKt : ∀ {A B C : World}, Kp A B → Kp B C → Kp A C) (hKb : ∀ (W : World) (l : Nat) (o : Obj), w.heap.size ≤ l → Kp W (W.putObj l o)) (hb0 : Below w0.heap.size w0 w) (hps : ∀ x, (encs x).size = ps.size)
    (I : List α → World → Prop) (Ix : Code → List α → World → Prop) (hI : ∀ s A B, Turn own w.heap.size A B → I s A → I s B) (hIx : ∀ c s A B, Turn own w.heap.size A B → Ix c s A → Ix c s B) (h0 : I [] w)
    (hround : ∀ (l : Nat) (pre : List α) (x : α) (W : World), pre ++ [x] <+: xs → w.heap.size ≤ l → I pre W →
      assign.wpIn (F.inRound l) (n - 1 - 1) P (Exit.then (fun a' W' => KeepsFrom w.heap.size W W' ∧ Kp W W' ∧ ∀ Wb, Turn own w.heap.size W' Wb → (∃ r, Wb.heap[l]? = some (.loop r)) → body.wpIn (F.inRound l) (n - 1 - 1) P (After w.heap.size Kp I Ix (pre ++ [x]) Wb) a' Wb) (fun _ _ _ => False))
        { tmps := (ps.zip (encs x)).foldl (fun t (p, v) => t.setIfInBounds p v) a.tmps, defers := [] } W)
    (hdone : ∀ (W : World), I xs W → Q .normal a W)
    (hstop : ∀ (c : Code) (pre : List α) (W : World), pre <+: xs → Ix c pre W → c.wpIn F n P Q a W) :
    (Code.rangeFunc g ps assign body).wpIn F n P Q a w := by
  refine wpIn_rangeFunc fun fn hfn => ?_
  rw [hro]
  let rec_ : LoopState → Option Code → Loop := fun st pe => { state := st, pending := pe, fn, tmps := a.tmps, params := ps, assign, body, defers := r₀.defers }
  have hd : ∀ st pe, rec_ st pe = { state := st, pending := pe, fn, tmps := a.tmps, params := ps, assign, body, defers := r₀.defers } := fun _ _ => rfl
  generalize rec_ = R at hd
  clear rec_
  obtain ⟨W1, hW1⟩ : ∃ W1, W1 = w.alloc (.loop (R .ready none)) := ⟨_, rfl⟩
  have sz : W1.heap.size = w.heap.size + 1 := by rw [hW1]; simp
  have hL : W1.heap[w.heap.size]? = some (.loop (R .ready none)) := by rw [hW1]; exact World.alloc_heap_new w _
  have hbW : Below w0.heap.size w0 W1 := by rw [hW1]; exact hb0.trans (((Below.refl _ w).alloc (Nat.le_refl _) _).mono hb0.size)
  have hI1 : I [] W1 := by rw [hW1]; exact hI _ _ _ (Turn.alloc _ _) h0
  have stay : ∀ {A B : World} {k : Nat} {o : Obj}, w.heap.size ≤ k → Step own A B → A.heap[k]? = some o → B.heap[k]? = some o := by
    rintro A B k o hk ⟨row, hg', hr⟩ ho
    exact (hg'.block k (Array.getElem?_eq_some_iff.1 ho).1 (fun e => by have := hown k (hr k e.symm); omega)).trans ho
  refine ⟨w.heap.size, [], W1, { target := .fn (.func gf) lb, args := #[.func (.yield w.heap.size) #[] #[]] }, W1, gf,
    #[.func (.yield w.heap.size) #[] #[]] ++ lb, W1, by rw [hW1, hd]; exact run_enterLoop_inner hl₀ _ _ _ _ _, by simp only [resolve, hg]; simp [go_sem], ?_, by simp [invoke, go_sem, eg], fun _ => h1, ?_⟩
  · intro f' hf'; simp [Target.leads] at hf'; subst hf'; exact hFg
  refine (hseq w.heap.size (fun s W => I s W ∧ W.heap[w.heap.size]? = some (.loop (R .ready none)))
    (fun s W => ∃ c, Ix c s W ∧ W.heap[w.heap.size]? = some (.loop (R .done (some c)))) W1 hbW
    (fun s A B hs h => ⟨hI s A B hs.turn h.1, stay (Nat.le_refl _) hs h.2⟩)
    (fun s A B hs h => by obtain ⟨c, hc, h2⟩ := h; exact ⟨c, hIx c s A B hs.turn hc, stay (Nat.le_refl _) hs h2⟩) ?_ ⟨hI1, hL⟩).mono ?_
  · rintro pre x W hpx ⟨hi, hl⟩
    have hy := run_yield (P := P) (args := encs x) hl (by rw [hd]; exact hps x)
    refine ⟨fn, _, assign, body, by rw [hd] at hy; exact hy, roundIn_of_wpIn hfn (wpIn_mono (hround _ pre x W hpx (Nat.le_refl _) hi) ?_)⟩
    rintro e a' Wa hp
    cases e with
    | ret => exact hp.elim
    | exit _ => exact hp.elim
    | goto _ => exact hp.elim
    | panic _ => exact hp.elim
    | outgrown => exact hp.elim
    | normal =>
    obtain ⟨kf, kp, hbody⟩ := hp
    have hla := kf.same _ _ (Nat.le_refl _) hl rfl
    refine ⟨_, run_beginRound hla (by rw [hd]), ?_⟩
    generalize hbz : ({ R .ready none with state := .busy } : Loop) = rb
    have hl2 : (Wa.putObj w.heap.size (.loop rb)).heap[w.heap.size]? = some (.loop rb) := World.putObj_heap_same (Array.getElem?_eq_some_iff.1 hla).1
    have tb : Turn own w.heap.size Wa (Wa.putObj w.heap.size (.loop rb)) := Turn.put _ (Nat.le_refl _) hla rfl
    have kb : Kp Wa (Wa.putObj w.heap.size (.loop rb)) := hKb _ _ _ (Nat.le_refl _)
    refine wpIn_mono (hbody _ tb ⟨_, hl2⟩) ?_
    have fin : ∀ (j : Option Code) (W3 : World), KeepsFrom w.heap.size (Wa.putObj w.heap.size (.loop rb)) W3 →
        (Instr.endRound w.heap.size j).run P W3 = .ok (.bool j.isNone) (W3.putObj w.heap.size (.loop (R (if j.isNone then .ready else .done) j))) ∧
        Turn own w.heap.size W3 (W3.putObj w.heap.size (.loop (R (if j.isNone then .ready else .done) j))) ∧
        (W3.putObj w.heap.size (.loop (R (if j.isNone then .ready else .done) j))).heap[w.heap.size]? = some (.loop (R (if j.isNone then .ready else .done) j)) := by
      intro j W3 k3
      have h3 := k3.same _ _ (Nat.le_refl _) hl2 rfl
      have e := run_endRound (P := P) j h3
      have er : ({ rb with state := if j.isNone then .ready else .done, pending := j } : Loop) = R (if j.isNone then .ready else .done) j := by rw [← hbz, hd, hd]
      rw [er] at e
      exact ⟨e, Turn.put _ (Nat.le_refl _) h3 rfl, World.putObj_heap_same (Array.getElem?_eq_some_iff.1 h3).1⟩
    rintro e a3 W3 hp
    cases e with
    | normal =>
      obtain ⟨k3, kp3, i3⟩ := hp
      obtain ⟨he, t3, l3⟩ := fin none W3 k3
      exact ⟨_, _, he, .inl ⟨rfl, ⟨hI _ _ _ t3 i3, l3⟩, hKt kp (hKt (hKt kb kp3) (hKb _ _ _ (Nat.le_refl _)))⟩⟩
    | ret =>
      obtain ⟨k3, i3⟩ := hp
      obtain ⟨he, t3, l3⟩ := fin (some .ret) W3 k3
      exact ⟨_, _, he, .inr ⟨rfl, .ret, hIx _ _ _ _ t3 i3, l3⟩⟩
    | exit id =>
      obtain ⟨k3, i3⟩ := hp
      obtain ⟨he, t3, l3⟩ := fin (some (.exit id)) W3 k3
      exact ⟨_, _, he, .inr ⟨rfl, .exit id, hIx _ _ _ _ t3 i3, l3⟩⟩
    | goto t => exact hp.elim
    | panic ch => exact hp.elim
    | outgrown => exact hp.elim
  · rintro e W2 ⟨⟨v, rfl⟩, ⟨hi, hl⟩ | ⟨pre, hpre, c, hi, hl⟩⟩
    · have h := run_endLoop (P := P) hl (by rw [hd]; simp)
      exact ⟨none, _, by rw [h, hd], hdone _ (hI _ _ _ (Turn.put _ (Nat.le_refl _) hl rfl) hi)⟩
    · have h := run_endLoop (P := P) hl (by rw [hd]; simp)
      exact ⟨some c, _, by rw [h, hd], hstop c pre _ hpre (hIx _ _ _ _ (Turn.put _ (Nat.le_refl _) hl rfl) hi)⟩
theorem Yields.inRound {g : Nat} {lb : Array Value} {own : Nat → Prop} {encs : α → Array Value} {Kp : World → World → Prop} {xs : List α} {w : World} (l : Nat) (h : Yields F n P g lb own encs Kp xs w) : Yields (F.inRound l) n P g lb own encs Kp xs w := h
end Go.Proofs.Ytgmjbnglenmlpaa.RF
end
