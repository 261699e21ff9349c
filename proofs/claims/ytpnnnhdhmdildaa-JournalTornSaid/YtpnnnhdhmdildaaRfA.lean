import Derived.RangeFuncNested
import Derived.RangeFuncBound
import Derived.RangeFuncCalls
import Derived.RangeFuncLeaves
import Derived.OrdersHeld
import Derived.OrdersIn
import Derived.Deep.RegionHeld
import Derived.Deep.QuietTactic
section
/- Loops over an iterator that keeps state of its own in cells: its contract, and what a caller owes. No program in sight. -/
namespace Go.Proofs.Ytpnnnhdhmdildaa.RF
open Go Go.RowKit
variable {F : Fence} {n : Nat} {P : Program} {α : Type}
/-- A step of the world that turns at most one block: one of the iterator's own, or one from B on that is no cells. -/
def Turn (own : Nat → Prop) (B : Nat) (W W' : World) : Prop :=
  ∃ row, W.grownBy W' row ∧ ∀ r, row = some r → own r ∨ B ≤ r ∧ ∃ o : Obj, W.heap[r]? = some o ∧ o.isCells = false
/-- A step of the iterator's own. -/
def Step (own : Nat → Prop) (W W' : World) : Prop := ∃ row, W.grownBy W' row ∧ ∀ r, row = some r → own r
theorem Step.turn {own : Nat → Prop} {B : Nat} {W W' : World} (h : Step own W W') : Turn own B W W' := by
  obtain ⟨row, hg, hr⟩ := h
  exact ⟨row, hg, fun r e => .inl (hr r e)⟩
theorem Turn.alloc {own : Nat → Prop} {B : Nat} (W : World) (o : Obj) : Turn own B W (W.alloc o) := ⟨none, World.grownBy_alloc W o none, fun _ e => by cases e⟩
theorem Turn.put {own : Nat → Prop} {B l : Nat} {W : World} {o : Obj} (o' : Obj) (hB : B ≤ l) (hl : W.heap[l]? = some o) (ho : o.isCells = false) : Turn own B W (W.putObj l o') :=
  ⟨some l, grownBy_putObj' W l o', fun r e => by cases e; exact .inr ⟨hB, o, hl, ho⟩⟩
/-- The iterator's contract: it hands out xs, in order, as long as it is asked. -/
def Yields (F : Fence) (n : Nat) (P : Program) (g : Nat) (lb : Array Value) (own : Nat → Prop) (encs : α → Array Value) (Kp : World → World → Prop) (xs : List α) (w : World) : Prop :=
  ∀ (l : Nat) (J Jx : List α → World → Prop) (W : World), Below w.heap.size w W →
    (∀ s A B, Step own A B → J s A → J s B) → (∀ s A B, Step own A B → Jx s A → Jx s B) →
    (∀ pre x W1, pre ++ [x] <+: xs → J pre W1 → YieldAt F (n - 1) P l (encs x) W1 fun e W' =>
      (e = .returned (.bool true) ∧ J (pre ++ [x]) W' ∧ Kp W1 W') ∨ (e = .returned (.bool false) ∧ Jx (pre ++ [x]) W')) →
    J [] W →
    CallsIn F n P g (#[.func (.yield l) #[] #[]] ++ lb) W fun e W' => (∃ v, e = .returned v) ∧ (J xs W' ∨ ∃ pre, pre <+: xs ∧ Jx pre W')
/-- How the body of a round may be left. -/
def After (B : Nat) (Kp : World → World → Prop) (I : List α → World → Prop) (Ix : Code → List α → World → Prop) (xs : List α) (W : World) : Exit → Act → World → Prop
  | .normal, _, W' => KeepsFrom B W W' ∧ Kp W W' ∧ I xs W'
  | .ret, _, W' => KeepsFrom B W W' ∧ Ix .ret xs W'
  | .exit id, _, W' => KeepsFrom B W W' ∧ Ix (.exit id) xs W'
  | .goto _, _, _ => False
  | .panic _, _, _ => False
  | .outgrown, _, _ => False
theorem Turn.boxed {own : Nat → Prop} {B : Nat} {X Y : World} (h : Turn own B X Y) {b : Nat} {t : TypeId} {v : Value} (hb : Boxed X b t v) (hn : ¬ own b) (hlt : b < B) : Boxed Y b t v := by
  obtain ⟨row, hg, hr⟩ := h
  refine hb.kept hg fun e => ?_
  rcases hr b e.symm with h | h
  · exact hn h
  · omega
theorem Turn.below {own : Nat → Prop} {B n₀ : Nat} {w X Y : World} (h : Turn own B X Y) (hb : Below n₀ w X) (hn : n₀ ≤ w.heap.size) (hown : ∀ r, own r → n₀ ≤ r) (hB : n₀ ≤ B) : Below n₀ w Y := by
  obtain ⟨row, hg, hr⟩ := h
  refine hb.grown hg (Nat.le_trans hn hb.size) fun k e => ?_
  rcases hr k e with h | h
  · exact hown k h
  · omega
theorem Turn.block {own : Nat → Prop} {B : Nat} {X Y : World} (h : Turn own B X Y) {b : Nat} {o : Obj} (hb : X.heap[b]? = some o) (hn : ¬ own b) (hlt : b < B) : Y.heap[b]? = some o := by
  obtain ⟨row, hg, hr⟩ := h
  refine (hg.block b (Array.getElem?_eq_some_iff.1 hb).1 fun e => ?_).trans hb
  rcases hr b e.symm with h | h
  · exact hn h
  · omega
/-- What a caller owes. -/
theorem range_own {g : Operand} {ps : Array Tmp} {assign body : Code} {Q : Exit → Act → World → Prop} {a : Act} {w : World}
    (hro : F.round = none) (h1 : 1 ≤ n) {gf : Nat} {lb : Array Value} (hg : a.eval g = .func (.func gf) #[] lb) (hFg : F.fn gf) (eg : ∀ args w, (callFunc gf args).run P w = .ok (.enter gf args) w)
    {own : Nat → Prop} {encs : α → Array Value} {Kp : World → World → Prop} {xs : List α} {w0 : World} (hseq : Yields F (n - 1) P gf lb own encs Kp xs w0) (hown : ∀ r, own r → r < w.heap.size)
    (hKt : ∀ {A B C : World}, Kp A B → Kp B C → Kp A C) (hKb : ∀ (W : World) (l : Nat) (o : Obj), w.heap.size ≤ l → Kp W (W.putObj l o)) (hb0 : Below w0.heap.size w0 w) (hps : ∀ x, (encs x).size = ps.size)
    (I : List α → World → Prop) (Ix : Code → List α → World → Prop) (hI : ∀ s A B, Turn own w.heap.size A B → I s A → I s B) (hIx : ∀ c s A B, Turn own w.heap.size A B → Ix c s A → Ix c s B) (h0 : I [] w)
    (hround : ∀ (l : Nat) (pre : List α) (x : α) (W : World), pre ++ [x] <+: xs → w.heap.size ≤ l → I pre W →
      assign.wpIn (F.inRound l) (n - 1 - 1) P (Exit.then (fun a' W' => KeepsFrom w.heap.size W W' ∧ Kp W W' ∧ ∀ Wb, Turn own w.heap.size W' Wb → (∃ r, Wb.heap[l]? = some (.loop r)) → body.wpIn (F.inRound l) (n - 1 - 1) P (After w.heap.size Kp I Ix (pre ++ [x]) Wb) a' Wb) (fun _ _ _ => False))
        { tmps := (ps.zip (encs x)).foldl (fun t (p, v) => t.setIfInBounds p v) a.tmps, defers := [] } W)
    (hdone : ∀ (D : Nat) (W : World), w.heap.size ≤ D → I xs W → W.heap[D]? = some (.deferred (some [])) → Q .normal { a with defers := { target := .collected D, args := #[] } :: a.defers } W)
    (hstop : ∀ (D : Nat) (c : Code) (pre : List α) (W : World), w.heap.size ≤ D → pre <+: xs → Ix c pre W → W.heap[D]? = some (.deferred (some [])) → c.wpIn F n P Q { a with defers := { target := .collected D, args := #[] } :: a.defers } W) :
    (Code.rangeFunc g ps assign body).wpIn F n P Q a w := by
  refine wpIn_rangeFunc fun fn hfn => ?_
  rw [hro]
  -- the loop's record, and the two blocks that are laid
  let rec_ : LoopState → Option Code → Loop := fun st pe => { state := st, pending := pe, fn, tmps := a.tmps, params := ps, assign, body, defers := w.heap.size }
  have hd : ∀ st pe, rec_ st pe = { state := st, pending := pe, fn, tmps := a.tmps, params := ps, assign, body, defers := w.heap.size } := fun _ _ => rfl
  generalize rec_ = R at hd
  clear rec_
  obtain ⟨W1, hW1⟩ : ∃ W1, W1 = (w.alloc (.deferred (some []))).alloc (.loop (R .ready none)) := ⟨_, rfl⟩
  have sz : W1.heap.size = w.heap.size + 2 := by rw [hW1]; simp
  have hL : W1.heap[w.heap.size + 1]? = some (.loop (R .ready none)) := by
    have := World.alloc_heap_new (w.alloc (.deferred (some []))) (.loop (R .ready none))
    rwa [World.size_alloc, ← hW1] at this
  have hD : W1.heap[w.heap.size]? = some (.deferred (some [])) := by
    rw [hW1]; exact (Below.heap_alloc _ _ _ (by simp)).trans (World.alloc_heap_new w _)
  have hbW : Below w0.heap.size w0 W1 := by
    rw [hW1]; exact hb0.trans ((((Below.refl _ w).alloc (Nat.le_refl _) _).alloc (by simp) _).mono hb0.size)
  have hI1 : I [] W1 := by rw [hW1]; exact hI _ _ _ (Turn.alloc _ _) (hI _ _ _ (Turn.alloc _ _) h0)
  -- a step of the iterator leaves what isn't its own
  have stay : ∀ {A B : World} {k : Nat} {o : Obj}, w.heap.size ≤ k → Step own A B → A.heap[k]? = some o → B.heap[k]? = some o := by
    rintro A B k o hk ⟨row, hg', hr⟩ ho
    exact (hg'.block k (Array.getElem?_eq_some_iff.1 ho).1 (fun e => by have := hown k (hr k e.symm); omega)).trans ho
  refine ⟨w.heap.size + 1, [{ target := .collected w.heap.size, args := #[] }], W1, { target := .fn (.func gf) lb, args := #[.func (.yield (w.heap.size + 1)) #[] #[]] }, W1, gf,
    #[.func (.yield (w.heap.size + 1)) #[] #[]] ++ lb, W1, by rw [hW1, hd]; exact run_enterLoop_outer _ _ _ _ _, by simp only [resolve, hg]; simp [go_sem], ?_, by simp [invoke, go_sem, eg], fun _ => h1, ?_⟩
  · intro f' hf'; simp [Target.leads] at hf'; subst hf'; exact hFg
  refine (hseq (w.heap.size + 1) (fun s W => I s W ∧ W.heap[w.heap.size + 1]? = some (.loop (R .ready none)) ∧ W.heap[w.heap.size]? = some (.deferred (some [])))
    (fun s W => ∃ c, Ix c s W ∧ W.heap[w.heap.size + 1]? = some (.loop (R .done (some c))) ∧ W.heap[w.heap.size]? = some (.deferred (some []))) W1 hbW
    (fun s A B hs h => ⟨hI s A B hs.turn h.1, stay (by omega) hs h.2.1, stay (by omega) hs h.2.2⟩)
    (fun s A B hs h => by obtain ⟨c, hc, h2, h3⟩ := h; exact ⟨c, hIx c s A B hs.turn hc, stay (by omega) hs h2, stay (by omega) hs h3⟩) ?_ ⟨hI1, hL, hD⟩).mono ?_
  · -- a round
    rintro pre x W hpx ⟨hi, hl, hk⟩
    have hy := run_yield (P := P) (args := encs x) hl (by rw [hd]; exact hps x)
    refine ⟨fn, _, assign, body, by rw [hd] at hy; exact hy, roundIn_of_wpIn hfn (wpIn_mono (hround _ pre x W hpx (by omega) hi) ?_)⟩
    rintro e a' Wa hp
    cases e with
    | ret => exact hp.elim
    | exit _ => exact hp.elim
    | goto _ => exact hp.elim
    | panic _ => exact hp.elim
    | outgrown => exact hp.elim
    | normal =>
    obtain ⟨kf, kp, hbody⟩ := hp
    have hla := kf.same _ _ (by omega) hl rfl
    have hka := kf.same _ _ (Nat.le_refl _) hk rfl
    refine ⟨_, run_beginRound hla (by rw [hd]), ?_⟩
    generalize hbz : ({ R .ready none with state := .busy } : Loop) = rb
    have hl2 : (Wa.putObj (w.heap.size + 1) (.loop rb)).heap[w.heap.size + 1]? = some (.loop rb) := World.putObj_heap_same (Array.getElem?_eq_some_iff.1 hla).1
    have hk2 : (Wa.putObj (w.heap.size + 1) (.loop rb)).heap[w.heap.size]? = some (.deferred (some [])) := (World.putObj_heap_other (by omega)).trans hka
    have tb : Turn own w.heap.size Wa (Wa.putObj (w.heap.size + 1) (.loop rb)) := Turn.put _ (by omega) hla rfl
    have kb : Kp Wa (Wa.putObj (w.heap.size + 1) (.loop rb)) := hKb _ _ _ (by omega)
    refine wpIn_mono (hbody _ tb ⟨_, hl2⟩) ?_
    -- the round's end
    have fin : ∀ (j : Option Code) (W3 : World), KeepsFrom w.heap.size (Wa.putObj (w.heap.size + 1) (.loop rb)) W3 →
        (Instr.endRound (w.heap.size + 1) j).run P W3 = .ok (.bool j.isNone) (W3.putObj (w.heap.size + 1) (.loop (R (if j.isNone then .ready else .done) j))) ∧
        Turn own w.heap.size W3 (W3.putObj (w.heap.size + 1) (.loop (R (if j.isNone then .ready else .done) j))) ∧
        (W3.putObj (w.heap.size + 1) (.loop (R (if j.isNone then .ready else .done) j))).heap[w.heap.size + 1]? = some (.loop (R (if j.isNone then .ready else .done) j)) ∧
        (W3.putObj (w.heap.size + 1) (.loop (R (if j.isNone then .ready else .done) j))).heap[w.heap.size]? = some (.deferred (some [])) := by
      intro j W3 k3
      have h3 := k3.same _ _ (by omega) hl2 rfl
      have e := run_endRound (P := P) j h3
      have er : ({ rb with state := if j.isNone then .ready else .done, pending := j } : Loop) = R (if j.isNone then .ready else .done) j := by rw [← hbz, hd, hd]
      rw [er] at e
      exact ⟨e, Turn.put _ (by omega) h3 rfl, World.putObj_heap_same (Array.getElem?_eq_some_iff.1 h3).1, (World.putObj_heap_other (by omega)).trans (k3.same _ _ (Nat.le_refl _) hk2 rfl)⟩
    rintro e a3 W3 hp
    cases e with
    | normal =>
      obtain ⟨k3, kp3, i3⟩ := hp
      obtain ⟨he, t3, l3, d3⟩ := fin none W3 k3
      exact ⟨_, _, he, .inl ⟨rfl, ⟨hI _ _ _ t3 i3, l3, d3⟩, hKt kp (hKt (hKt kb kp3) (hKb _ _ _ (by omega)))⟩⟩
    | ret =>
      obtain ⟨k3, i3⟩ := hp
      obtain ⟨he, t3, l3, d3⟩ := fin (some .ret) W3 k3
      exact ⟨_, _, he, .inr ⟨rfl, .ret, hIx _ _ _ _ t3 i3, l3, d3⟩⟩
    | exit id =>
      obtain ⟨k3, i3⟩ := hp
      obtain ⟨he, t3, l3, d3⟩ := fin (some (.exit id)) W3 k3
      exact ⟨_, _, he, .inr ⟨rfl, .exit id, hIx _ _ _ _ t3 i3, l3, d3⟩⟩
    | goto t => exact hp.elim
    | panic ch => exact hp.elim
    | outgrown => exact hp.elim
  · -- behind the iterator
    rintro e W2 ⟨⟨v, rfl⟩, ⟨hi, hl, hk⟩ | ⟨pre, hpre, c, hi, hl, hk⟩⟩
    · have h := run_endLoop (P := P) hl (by rw [hd]; simp)
      exact ⟨none, _, by rw [h, hd], hdone _ _ (Nat.le_refl _) (hI _ _ _ (Turn.put _ (by omega) hl rfl) hi) ((World.putObj_heap_other (by omega)).trans hk)⟩
    · have h := run_endLoop (P := P) hl (by rw [hd]; simp)
      exact ⟨some c, _, by rw [h, hd], hstop _ c pre _ (Nat.le_refl _) hpre (hIx _ _ _ _ (Turn.put _ (by omega) hl rfl) hi) ((World.putObj_heap_other (by omega)).trans hk)⟩
end Go.Proofs.Ytpnnnhdhmdildaa.RF
end
section
/- Loops over an iterator within the round of another loop. No program in sight. -/
namespace Go.Proofs.Ytpnnnhdhmdildaa.RF
open Go Go.RowKit
variable {F : Fence} {n : Nat} {P : Program} {α : Type}
/-- The same, where the loop stands in the round of another. -/
theorem range_own_in {g : Operand} {ps : Array Tmp} {assign body : Code} {Q : Exit → Act → World → Prop} {a : Act} {w : World} {l₀ : Nat} {r₀ : Loop}
    (hro : F.round = some l₀) (hl₀ : w.heap[l₀]? = some (.loop r₀)) (h1 : 1 ≤ n) {gf : Nat} {lb : Array Value} (hg : a.eval g = .func (.func gf) #[] lb) (hFg : F.fn gf) (eg : ∀ args w, (callFunc gf args).run P w = .ok (.enter gf args) w)
    {own : Nat → Prop} {encs : α → Array Value} {Kp : World → World → Prop} {xs : List α} {w0 : World} (hseq : Yields F (n - 1) P gf lb own encs Kp xs w0) (hown : ∀ r, own r → r < w.heap.size)
    (hKt : ∀ {A B C : World}, Kp A B → Kp B C → Kp A C) (hKb : ∀ (W : World) (l : Nat) (o : Obj), w.heap.size ≤ l → Kp W (W.putObj l o)) (hb0 : Below w0.heap.size w0 w) (hps : ∀ x, (encs x).size = ps.size)
    (I : List α → World → Prop) (Ix : Code → List α → World → Prop) (hI : ∀ s A B, Turn own w.heap.size A B → I s A → I s B) (hIx : ∀ c s A B, Turn own w.heap.size A B → Ix c s A → Ix c s B) (h0 : I [] w)
    (hround : ∀ (l : Nat) (pre : List α) (x : α) (W : World), pre ++ [x] <+: xs → w.heap.size ≤ l → I pre W →
      assign.wpIn (F.inRound l) (n - 1 - 1) P (Exit.then (fun a' W' => KeepsFrom w.heap.size W W' ∧ Kp W W' ∧ ∀ Wb, Turn own w.heap.size W' Wb → (∃ r, Wb.heap[l]? = some (.loop r)) → body.wpIn (F.inRound l) (n - 1 - 1) P (After w.heap.size Kp I Ix (pre ++ [x]) Wb) a' Wb) (fun _ _ _ => False))
        { tmps := (ps.zip (encs x)).foldl (fun t (p, v) => t.setIfInBounds p v) a.tmps, defers := [] } W)
    (hdone : ∀ (W : World), I xs W → Q .normal a W)
    (hstop : ∀ (c : Code) (pre : List α) (W : World), pre <+: xs → Ix c pre W → c.wpIn F n P Q a W) :
    (Code.rangeFunc g ps assign body).wpIn F n P Q a w := by
  refine wpIn_rangeFunc fun fn hfn => ?_
  rw [hro]
  let rec_ : LoopState → Option Code → Loop := fun st pe => { state := st, pending := pe, fn, tmps := a.tmps, params := ps, assign, body, defers := r₀.defers }
  have hd : ∀ st pe, rec_ st pe = { state := st, pending := pe, fn, tmps := a.tmps, params := ps, assign, body, defers := r₀.defers } := fun _ _ => rfl
  generalize rec_ = R at hd
  clear rec_
  obtain ⟨W1, hW1⟩ : ∃ W1, W1 = w.alloc (.loop (R .ready none)) := ⟨_, rfl⟩
  have sz : W1.heap.size = w.heap.size + 1 := by rw [hW1]; simp
  have hL : W1.heap[w.heap.size]? = some (.loop (R .ready none)) := by rw [hW1]; exact World.alloc_heap_new w _
  have hbW : Below w0.heap.size w0 W1 := by rw [hW1]; exact hb0.trans (((Below.refl _ w).alloc (Nat.le_refl _) _).mono hb0.size)
  have hI1 : I [] W1 := by rw [hW1]; exact hI _ _ _ (Turn.alloc _ _) h0
  have stay : ∀ {A B : World} {k : Nat} {o : Obj}, w.heap.size ≤ k → Step own A B → A.heap[k]? = some o → B.heap[k]? = some o := by
    rintro A B k o hk ⟨row, hg', hr⟩ ho
    exact (hg'.block k (Array.getElem?_eq_some_iff.1 ho).1 (fun e => by have := hown k (hr k e.symm); omega)).trans ho
  refine ⟨w.heap.size, [], W1, { target := .fn (.func gf) lb, args := #[.func (.yield w.heap.size) #[] #[]] }, W1, gf,
    #[.func (.yield w.heap.size) #[] #[]] ++ lb, W1, by rw [hW1, hd]; exact run_enterLoop_inner hl₀ _ _ _ _ _, by simp only [resolve, hg]; simp [go_sem], ?_, by simp [invoke, go_sem, eg], fun _ => h1, ?_⟩
  · intro f' hf'; simp [Target.leads] at hf'; subst hf'; exact hFg
  refine (hseq w.heap.size (fun s W => I s W ∧ W.heap[w.heap.size]? = some (.loop (R .ready none)))
    (fun s W => ∃ c, Ix c s W ∧ W.heap[w.heap.size]? = some (.loop (R .done (some c)))) W1 hbW
    (fun s A B hs h => ⟨hI s A B hs.turn h.1, stay (Nat.le_refl _) hs h.2⟩)
    (fun s A B hs h => by obtain ⟨c, hc, h2⟩ := h; exact ⟨c, hIx c s A B hs.turn hc, stay (Nat.le_refl _) hs h2⟩) ?_ ⟨hI1, hL⟩).mono ?_
  · rintro pre x W hpx ⟨hi, hl⟩
    have hy := run_yield (P := P) (args := encs x) hl (by rw [hd]; exact hps x)
    refine ⟨fn, _, assign, body, by rw [hd] at hy; exact hy, roundIn_of_wpIn hfn (wpIn_mono (hround _ pre x W hpx (Nat.le_refl _) hi) ?_)⟩
    rintro e a' Wa hp
    cases e with
    | ret => exact hp.elim
    | exit _ => exact hp.elim
    | goto _ => exact hp.elim
    | panic _ => exact hp.elim
    | outgrown => exact hp.elim
    | normal =>
    obtain ⟨kf, kp, hbody⟩ := hp
    have hla := kf.same _ _ (Nat.le_refl _) hl rfl
    refine ⟨_, run_beginRound hla (by rw [hd]), ?_⟩
    generalize hbz : ({ R .ready none with state := .busy } : Loop) = rb
    have hl2 : (Wa.putObj w.heap.size (.loop rb)).heap[w.heap.size]? = some (.loop rb) := World.putObj_heap_same (Array.getElem?_eq_some_iff.1 hla).1
    have tb : Turn own w.heap.size Wa (Wa.putObj w.heap.size (.loop rb)) := Turn.put _ (Nat.le_refl _) hla rfl
    have kb : Kp Wa (Wa.putObj w.heap.size (.loop rb)) := hKb _ _ _ (Nat.le_refl _)
    refine wpIn_mono (hbody _ tb ⟨_, hl2⟩) ?_
    have fin : ∀ (j : Option Code) (W3 : World), KeepsFrom w.heap.size (Wa.putObj w.heap.size (.loop rb)) W3 →
        (Instr.endRound w.heap.size j).run P W3 = .ok (.bool j.isNone) (W3.putObj w.heap.size (.loop (R (if j.isNone then .ready else .done) j))) ∧
        Turn own w.heap.size W3 (W3.putObj w.heap.size (.loop (R (if j.isNone then .ready else .done) j))) ∧
        (W3.putObj w.heap.size (.loop (R (if j.isNone then .ready else .done) j))).heap[w.heap.size]? = some (.loop (R (if j.isNone then .ready else .done) j)) := by
      intro j W3 k3
      have h3 := k3.same _ _ (Nat.le_refl _) hl2 rfl
      have e := run_endRound (P := P) j h3
      have er : ({ rb with state := if j.isNone then .ready else .done, pending := j } : Loop) = R (if j.isNone then .ready else .done) j := by rw [← hbz, hd, hd]
      rw [er] at e
      exact ⟨e, Turn.put _ (Nat.le_refl _) h3 rfl, World.putObj_heap_same (Array.getElem?_eq_some_iff.1 h3).1⟩
    rintro e a3 W3 hp
    cases e with
    | normal =>
      obtain ⟨k3, kp3, i3⟩ := hp
      obtain ⟨he, t3, l3⟩ := fin none W3 k3
      exact ⟨_, _, he, .inl ⟨rfl, ⟨hI _ _ _ t3 i3, l3⟩, hKt kp (hKt (hKt kb kp3) (hKb _ _ _ (Nat.le_refl _)))⟩⟩
    | ret =>
      obtain ⟨k3, i3⟩ := hp
      obtain ⟨he, t3, l3⟩ := fin (some .ret) W3 k3
      exact ⟨_, _, he, .inr ⟨rfl, .ret, hIx _ _ _ _ t3 i3, l3⟩⟩
    | exit id =>
      obtain ⟨k3, i3⟩ := hp
      obtain ⟨he, t3, l3⟩ := fin (some (.exit id)) W3 k3
      exact ⟨_, _, he, .inr ⟨rfl, .exit id, hIx _ _ _ _ t3 i3, l3⟩⟩
    | goto t => exact hp.elim
    | panic ch => exact hp.elim
    | outgrown => exact hp.elim
  · rintro e W2 ⟨⟨v, rfl⟩, ⟨hi, hl⟩ | ⟨pre, hpre, c, hi, hl⟩⟩
    · have h := run_endLoop (P := P) hl (by rw [hd]; simp)
      exact ⟨none, _, by rw [h, hd], hdone _ (hI _ _ _ (Turn.put _ (Nat.le_refl _) hl rfl) hi)⟩
    · have h := run_endLoop (P := P) hl (by rw [hd]; simp)
      exact ⟨some c, _, by rw [h, hd], hstop c pre _ hpre (hIx _ _ _ _ (Turn.put _ (Nat.le_refl _) hl rfl) hi)⟩
theorem Yields.inRound {g : Nat} {lb : Array Value} {own : Nat → Prop} {encs : α → Array Value} {Kp : World → World → Prop} {xs : List α} {w : World} (l : Nat) (h : Yields F n P g lb own encs Kp xs w) : Yields (F.inRound l) n P g lb own encs Kp xs w := h
end Go.Proofs.Ytpnnnhdhmdildaa.RF
end
section
/- Regions that draw their order, inside a round of a range over a function. No program in sight. -/
namespace Go.Proofs.Ytpnnnhdhmdildaa.RF
open Go Go.RowKit
/-- A post that knows the ordinary end alone. -/
def Only (K : Act → World → Prop) : Exit → Act → World → Prop
  | .normal, a, w => K a w
  | .ret, _, _ => False
  | .exit _, _, _ => False
  | .goto _, _, _ => False
  | .panic _, _, _ => False
  | .outgrown, _, _ => False
theorem Only.no {K : Act → World → Prop} : ¬ LetsOut (Only K) := fun ⟨_, _, h⟩ => h
section
variable {P : Program} {ops : Array Oper} {md : Region.Mode} {l n : Nat}
theorem wpIn_of_wp_round {o : Oper} {a : Act} {w : World} {K : Act → World → Prop} {Q : Exit → Act → World → Prop} (hd : ∀ c, o.op ≠ .defer c) (h : o.wp P a w K Q) : o.wpIn (Fence.wide.inRound l) n P a w K Q := by
  refine ⟨fun f _ => trivial, ?_⟩
  rw [Oper.semAt_eq _ _ _ hd]
  unfold Oper.wp at h
  generalize (execOp a.eval o).run P w = r at *
  have hdep : (Fence.wide.inRound l).depth.isSome = true → 1 ≤ n := fun hx => by cases hx
  cases r with
  | ok x w' =>
    cases x <;> simp only [Oper.upon] at h <;> simp only [Oper.uponIn]
    case value => exact h
    case skip => exact h
    case defer => exact h
    case enter f args => exact ⟨hdep, CallsIn.inRound l ((callsIn_wide (n := n - 1)).2 h)⟩
    case row row args =>
      refine ⟨hdep, fun c cs _ => ?_⟩
      obtain ⟨v, w'', hq, hs⟩ := h c cs
      exact ⟨v, w'', hq, by rw [fenced_inRound]; exact stepsIn_wide.2 hs⟩
  | halt x w' => cases x <;> simp only [Oper.upon] at h <;> simp only [Oper.uponIn] <;> exact h
/-- No operation defers. -/
def noDefer (ops : Array Oper) : Bool := ops.all fun o => match o.op with | .defer _ => false | _ => true
theorem noDefer_at {i : Nat} {o : Oper} (h : noDefer ops = true) (ho : ops[i]? = some o) : ∀ c, o.op ≠ .defer c := fun c e => by
  unfold noDefer at h
  rw [Array.all_eq_true] at h
  obtain ⟨hi, rfl⟩ := Array.getElem?_eq_some_iff.1 ho
  have := h i hi
  rw [e] at this
  cases this
theorem wpOpIn_of_wpOp_round {i : Nat} {a : Act} {w : World} {K : Act → World → Prop} {Q : Exit → Act → World → Prop} (hd : noDefer ops = true) (hQ : ¬ LetsOut Q) (h : wpOp P ops Q i K a w) : wpOpIn (Fence.wide.inRound l) n P ops Q i K a w := by
  unfold wpOp at h
  unfold wpOpIn
  cases ho : ops[i]? with
  | none => rw [ho] at h; exact h
  | some o =>
    rw [ho] at h
    dsimp only at h ⊢
    split
    · rename_i hw
      rw [if_pos hw] at h
      rcases h with h | h
      · exact wpIn_of_wp_round (noDefer_at hd ho) h
      · exact absurd h.2 hQ
    · rename_i hw
      rw [if_neg hw] at h
      exact ⟨fun _ _ => trivial, h⟩
theorem wpAnyIn_of_wpAny_round {Q : Exit → Act → World → Prop} (hd : noDefer ops = true) (hQ : ¬ LetsOut Q) : ∀ (fuel : Nat) (listed : Array Bool) (a : Act) (w : World), wpAny P md ops Q fuel listed a w → wpAnyIn (Fence.wide.inRound l) n P md ops Q fuel listed a w
  | 0, _, _, _, h => h
  | fuel + 1, _, _, _, h => ⟨h.1, fun i hi => wpOpIn_mono (fun a' w' h' => wpAnyIn_of_wpAny_round hd hQ fuel _ a' w' h') (wpOpIn_of_wpOp_round hd hQ (h.2 i hi))⟩
theorem region_round_any {id : Nat} {Q : Exit → Act → World → Prop} {K : Act → World → Prop} {a : Act} {w : World} (hm : P.follows .mixedOrders = true) (hd : noDefer ops = true) (hK : ∀ a w, K a w → Q .normal a w)
    (h : wpAny P .any ops (Only K) ops.size (Array.replicate ops.size false) a w.drew) : (Code.region id ops true).wpIn (Fence.wide.inRound l) n P Q a w :=
  wpIn_mono (wpIn_region_any hm (wpAnyIn_of_wpAny_round hd Only.no _ _ _ _ h)) fun e a' w' hq => by
    cases e <;> first | exact hK _ _ hq | exact (hq : False).elim
/-- A region whose operations only read. -/
theorem region_round_quiet {id : Nat} {Q : Exit → Act → World → Prop} {a : Act} {w : World} {os : List Oper} (hm : P.follows .mixedOrders = true) (hB : Region.lexB .any os.toArray = true) (hd : noDefer os.toArray = true)
    (h : wpQuiet P os.toArray (fun w' => ∃ n, w' = w.drewN n) (fun a' => ∀ w', (∃ n, w' = w.drewN n) → Q .normal a' w') os a) : (Code.region id os.toArray true).wpIn (Fence.wide.inRound l) n P Q a w := by
  simp only [Region.lexB, Bool.and_eq_true] at hB
  refine region_round_any (K := fun a' w' => Q .normal a' w') hm hd (fun _ _ h => h) (wpAny_of_quiet (Q := fun a' => ∀ w', (∃ n, w' = w.drewN n) → Q .normal a' w') (Q' := Only fun a' w' => Q .normal a' w') (C := fun w' => ∃ n, w' = w.drewN n) (fun _ w' hw' h => h w' hw') _ _ _ _ ⟨1, rfl⟩ ?_)
  have := wpAnyQ_lex (C := fun w' => ∃ n, w' = w.drewN n) (md := .any) hB.1 os 0 (Array.replicate os.toArray.size false) a (by simp) (by simpa using hB.2) h
  simpa using this
/-! ### Loads first, a condition on the world that need not hold behind the last operations (from m on) -/
/-- Whatever order is picked; behind each operation below m the condition holds. -/
def wpT (P : Program) (md : Region.Mode) (ops : Array Oper) (Q : Exit → Act → World → Prop) (S : World → Prop) (m : Nat) : Nat → Array Bool → Act → World → Prop
  | 0, listed, a, w => Region.ready md ops listed = [] ∧ Q .normal a w
  | fuel + 1, listed, a, w =>
    (Region.ready md ops listed = [] → Q .normal a w) ∧
    ∀ i ∈ Region.ready md ops listed, wpOp P ops Q i (fun a' w' => (i < m → S w') ∧ wpT P md ops Q S m fuel (listed.setIfInBounds i true) a' w') a w
section
variable {Q : Exit → Act → World → Prop} {S : World → Prop} {m : Nat}
theorem wpAny_of_T : ∀ (fuel : Nat) (listed : Array Bool) (a : Act) (w : World), wpT P md ops Q S m fuel listed a w → wpAny P md ops Q fuel listed a w
  | 0, _, _, _, h => h
  | fuel + 1, _, _, _, h => ⟨h.1, fun i hi => wpOp_mono (fun a' w' h' => wpAny_of_T fuel _ a' w' h'.2) (h.2 i hi)⟩
/-- Those that wait for number i, and i. -/
def waiters (md : Region.Mode) (ops : Array Oper) (i : Nat) : List Nat := (List.range ops.size).foldl (fun C j => if ((ops[j]?).any fun o => o.after.any fun e => Region.binds md e && C.contains e.on) then C ++ [j] else C) [i]
/-- None of them has come up; the last ones are among them. -/
def tailB (md : Region.Mode) (ops : Array Oper) (L : Array Bool) (m i : Nat) (C : List Nat) : Bool :=
  (C.all fun c => c == i || ((ops[c]?).any fun o => o.after.any fun e => Region.binds md e && C.contains e.on)) && (C.all fun c => !(L.getD c true)) && ((List.range ops.size).all fun j => decide (j < m) || L.getD j true || C.contains j)
theorem wpT_first {i : Nat} {oi : Oper} {v : Value} {C : List Nat} (hi : ops[i]? = some oi) (hsel : ∀ (j : Nat) (o : Oper) cs b, ops[j]? = some o → o.op ≠ .select cs b)
    (hQ : ∀ c a w, Q (.panic c) (a.put oi.dst v) w → Q (.panic c) a w)
    (hC : ∀ c ∈ C, c ≠ i → ∀ o, ops[c]? = some o → ∃ e ∈ o.after, Region.binds md e = true ∧ e.on ∈ C) :
    ∀ (fuel : Nat) (listed : Array Bool) (a : Act) (w : World),
      (∀ c ∈ C, listed.getD c true = false) → (∀ j, j < ops.size → m ≤ j → listed.getD j true = false → j ∈ C) →
      (∀ j oj, ops[j]? = some oj → j ≠ i → listed.getD j true = false → (∀ e ∈ oj.after, Region.binds md e = true → e.on ≠ i) → oi.apart ops oj = true) →
      i ∈ Region.ready md ops listed → YieldsIf P ops S oi v a → S w →
      wpT P md ops Q S m fuel (listed.setIfInBounds i true) (a.put oi.dst v) w → wpT P md ops Q S m (fuel + 1) listed a w := by
  have low : ∀ {listed : Array Bool} {j : Nat} {oj : Oper}, (∀ c ∈ C, listed.getD c true = false) → j ≠ i → ops[j]? = some oj → (∀ e ∈ oj.after, Region.binds md e = true → listed.getD e.on false = true) → j ∉ C := by
    intro listed j oj hun hji hoj hall hjC
    obtain ⟨e, he, hb, hc⟩ := hC j hjC hji oj hoj
    have h1 := hall e he hb
    have h0 := hun _ hc
    rcases Nat.lt_or_ge e.on listed.size with h' | h'
    · simp [h'] at h0 h1; rw [h0] at h1; cases h1
    · simp [Array.getElem?_eq_none h'] at h1
  intro fuel
  induction fuel with
  | zero =>
    intro listed a w hun htl _ hr hy hS H
    refine ⟨fun h => (by rw [h] at hr; cases hr), fun j hj => ?_⟩
    by_cases hji : j = i
    · subst hji; exact hy.wpOp hi hS ⟨fun _ => hS, H⟩
    · have := ready_mono hj hji
      rw [H.1] at this
      cases this
  | succ fuel ih =>
    intro listed a w hun htl hfree hr hy hS H
    refine ⟨fun h => (by rw [h] at hr; cases hr), fun j hj => ?_⟩
    by_cases hji : j = i
    · subst hji; exact hy.wpOp hi hS ⟨fun _ => hS, H⟩
    · have h1 := H.2 j (ready_mono hj hji)
      obtain ⟨hjun, oj, hoj, hall⟩ := mem_ready.1 hj
      have hnot : ∀ e ∈ oj.after, Region.binds md e = true → e.on ≠ i := fun e he hb heq => by
        have h1 := hall e he hb
        have h0 := (mem_ready.1 hr).1
        rw [heq] at h1
        rcases Nat.lt_or_ge i listed.size with h' | h'
        · simp [h'] at h0 h1; rw [h0] at h1; cases h1
        · simp [Array.getElem?_eq_none h'] at h1
      have hjC : j ∉ C := low hun hji hoj hall
      have hjm : j < m := Nat.lt_of_not_le fun h => hjC (htl j (Array.getElem?_eq_some_iff.1 hoj).1 h hjun)
      have h2 := wpOp_putIf hoj (hfree j oj hoj hji hjun hnot) (fun cs b => hsel i oi cs b hi) (fun cs b => hsel j oj cs b hoj) hQ hy h1
      have hun' : ∀ c ∈ C, (listed.setIfInBounds j true).getD c true = false := fun c hc => by
        by_cases hjc : j = c
        · subst hjc; exact absurd hc hjC
        · rw [getD_set_ne true hjc]; exact hun c hc
      have htl' : ∀ k, k < ops.size → m ≤ k → (listed.setIfInBounds j true).getD k true = false → k ∈ C := fun k hk hmk hl => by
        refine htl k hk hmk ?_
        by_cases hjk : j = k
        · subst hjk; exact hjun
        · rw [getD_set_ne true hjk] at hl; exact hl
      have hfree' : ∀ k ok, ops[k]? = some ok → k ≠ i → (listed.setIfInBounds j true).getD k true = false →
          (∀ e ∈ ok.after, Region.binds md e = true → e.on ≠ i) → oi.apart ops ok = true := fun k ok hk hki hun hno => by
        refine hfree k ok hk hki ?_ hno
        by_cases hjk : j = k
        · subst hjk; exact hjun
        · rw [getD_set_ne true hjk] at hun; exact hun
      refine wpOp_mono (fun a' w' h3 => ⟨h3.2.1, ih (listed.setIfInBounds j true) a' w' hun' htl' hfree' (ready_mono hr (Ne.symm hji)) h3.1 (h3.2.1 hjm) ?_⟩) h2
      rw [Array.setIfInBounds_comm _ _ hji]
      exact h3.2.2
/-- Number i is taken first. -/
theorem wpT_take {i : Nat} (d : Option Tmp) {oi : Oper} {v : Value} {fuel : Nat} {listed : Array Bool} {a : Act} {w : World} (hi : ops[i]? = some oi)
    (hs : Region.noSelect ops = true) (hf : Region.free md ops listed i = true) (hr : (Region.ready md ops listed).contains i = true) (hT : tailB md ops listed m i (waiters md ops i) = true)
    (hQ : ∀ c a w, Q (.panic c) (a.put oi.dst v) w → Q (.panic c) a w) (hdd : oi.dst = d) (hy : YieldsIf P ops S oi v a) (hS : S w)
    (h : wpT P md ops Q S m fuel (listed.setIfInBounds i true) (a.put d v) w) : wpT P md ops Q S m (fuel + 1) listed a w := by
  subst hdd
  unfold tailB at hT
  simp only [Bool.and_eq_true] at hT
  obtain ⟨⟨h1, h2⟩, h3⟩ := hT
  refine wpT_first (C := waiters md ops i) hi (Region.noSelect_spec hs) hQ (fun c hc hci o ho => ?_) fuel listed a w (fun c hc => ?_) (fun j hj hm hl => ?_) (Region.free_spec hi hf) (by simpa using hr) hy hS h
  · have := List.all_eq_true.1 h1 c hc
    rw [ho] at this
    simp only [Option.any_some, Bool.or_eq_true, beq_iff_eq, Array.any_eq_true, Bool.and_eq_true, List.contains_iff_mem] at this
    rcases this with e | ⟨k, hk, e1, e2⟩
    · exact absurd e hci
    · exact ⟨_, Array.getElem_mem hk, e1, e2⟩
  · have := List.all_eq_true.1 h2 c hc
    simpa using this
  · have := List.all_eq_true.1 h3 j (List.mem_range.2 hj)
    rw [hl] at this
    simp only [Bool.or_false, Bool.or_eq_true, decide_eq_true_eq, List.contains_iff_mem] at this
    rcases this with h | h
    · omega
    · exact h
/-- Each of those that may come up comes up. -/
def AllT (P : Program) (md : Region.Mode) (ops : Array Oper) (Q : Exit → Act → World → Prop) (S : World → Prop) (m fuel : Nat) (listed : Array Bool) (a : Act) (w : World) (rs : List Nat) : Prop :=
  ∀ i ∈ rs, wpOp P ops Q i (fun a' w' => (i < m → S w') ∧ wpT P md ops Q S m fuel (listed.setIfInBounds i true) a' w') a w
theorem AllT.nil {fuel : Nat} {listed : Array Bool} {a : Act} {w : World} : AllT P md ops Q S m fuel listed a w [] := fun _ h => by cases h
theorem AllT.cons {fuel : Nat} {listed : Array Bool} {a : Act} {w : World} {i : Nat} {o : Oper} {rs : List Nat} (ho : ops[i]? = some o)
    (h : ∀ K' : Act → World → Prop, Shut (∀ a w, (i < m → S w) → ((i < m → S w) → wpT P md ops Q S m fuel (listed.setIfInBounds i true) a w) → K' a w) → if Region.wanted o (yielded ops a.tmps) = true then Oper.wp P o a w K' Q else K' (a.put o.dst undef) w)
    (hs : AllT P md ops Q S m fuel listed a w rs) : AllT P md ops Q S m fuel listed a w (i :: rs) := fun j hj => by
  rcases List.mem_cons.1 hj with rfl | hj
  · exact wpOp_step ho (fun K' hK => h K' (fun a w hS hW => hK a w ⟨hS, hW hS⟩))
  · exact hs j hj
theorem wpT_ready {rs : List Nat} {fuel : Nat} {listed : Array Bool} {a : Act} {w : World} (hr : Region.ready md ops listed = rs) (hne : rs ≠ [])
    (h : AllT P md ops Q S m fuel listed a w rs) : wpT P md ops Q S m (fuel + 1) listed a w := ⟨fun h0 => absurd (hr ▸ h0) hne, hr ▸ h⟩
theorem wpT_done {listed : Array Bool} {a : Act} {w : World} (hr : Region.ready md ops listed = []) (h : Q .normal a w) : ∀ fuel, wpT P md ops Q S m fuel listed a w
  | 0 => ⟨hr, h⟩
  | _ + 1 => ⟨fun _ => h, by rw [hr]; simp⟩
end
/-- A region in a round, loads first. -/
theorem region_round_T {id : Nat} {Q : Exit → Act → World → Prop} {a : Act} {w : World} (S : World → Prop) (m : Nat) (hm : P.follows .mixedOrders = true) (hd : noDefer ops = true) (hS : S w.drew)
    (h : ∀ K : Act → World → Prop, Shut (∀ a w, Q .normal a w → K a w) → S w.drew → wpT P .any ops (Only K) S m ops.size (Array.replicate ops.size false) a w.drew) : (Code.region id ops true).wpIn (Fence.wide.inRound l) n P Q a w :=
  region_round_any (K := fun a' w' => Q .normal a' w') hm hd (fun _ _ h => h) (wpAny_of_T _ _ _ _ (h _ (fun _ _ h => h) hS))
/-- A region, loads first. -/
theorem region_T {id : Nat} {Q : Exit → Act → World → Prop} {a : Act} {w : World} (S : World → Prop) (m : Nat) (hm : P.follows .mixedOrders = true) (hS : S w.drew)
    (h : ∀ K : Act → World → Prop, Shut (∀ a w, Q .normal a w → K a w) → S w.drew → wpT P .any ops (Only K) S m ops.size (Array.replicate ops.size false) a w.drew) : (Code.region id ops true).wp P Q a w :=
  Code.wp_mono (fun e a' w' hq => by cases e <;> first | exact hq | exact (hq : False).elim) (wp_region_any (Q := Only fun a' w' => Q .normal a' w') hm (wpAny_of_T _ _ _ _ (h _ (fun _ _ h => h) hS)))
end
end Go.Proofs.Ytpnnnhdhmdildaa.RF
end
