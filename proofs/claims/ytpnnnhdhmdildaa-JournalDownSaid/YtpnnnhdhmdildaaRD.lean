/- Regions that draw their order, inside a round of a range over a function. No program in sight. -/
import Derived.Test.YtpnnnhdhmdildaaRFN
import Derived.OrdersHeld
import Derived.OrdersIn
import Derived.Deep.RegionHeld
import Derived.Deep.QuietTactic
namespace Go.Proofs.Ytpnnnhdhmdildaa.RF
open Go Go.RowKit
/-- A post that knows the ordinary end alone. -/
def Only (K : Act → World → Prop) : Exit → Act → World → Prop
  | .normal, a, w => K a w
  | .ret, _, _ => False
  | .exit _, _, _ => False
  | .goto _, _, _ => False
  | .panic _, _, _ => False
  | .outgrown, _, _ => False
theorem Only.no {K : Act → World → Prop} : ¬ LetsOut (Only K) := fun ⟨_, _, h⟩ => h
section
variable {P : Program} {ops : Array Oper} {md : Region.Mode} {l n : Nat}
theorem wpIn_of_wp_round {o : Oper} {a : Act} {w : World} {K : Act → World → Prop} {Q : Exit → Act → World → Prop} (hd : ∀ c, o.op ≠ .defer c) (h : o.wp P a w K Q) : o.wpIn (Fence.wide.inRound l) n P a w K Q := by
  refine ⟨fun f _ => trivial, ?_⟩
  rw [Oper.semAt_eq _ _ _ hd]
  unfold Oper.wp at h
  generalize (execOp a.eval o).run P w = r at *
  have hdep : (Fence.wide.inRound l).depth.isSome = true → 1 ≤ n := fun hx => by cases hx
  cases r with
  | ok x w' =>
    cases x <;> simp only [Oper.upon] at h <;> simp only [Oper.uponIn]
    case value => exact h
    case skip => exact h
    case defer => exact h
    case enter f args => exact ⟨hdep, CallsIn.inRound l ((callsIn_wide (n := n - 1)).2 h)⟩
    case row row args =>
      refine ⟨hdep, fun c cs _ => ?_⟩
      obtain ⟨v, w'', hq, hs⟩ := h c cs
      exact ⟨v, w'', hq, by rw [fenced_inRound]; exact stepsIn_wide.2 hs⟩
  | halt x w' => cases x <;> simp only [Oper.upon] at h <;> simp only [Oper.uponIn] <;> exact h
/-- No operation defers. -/
def noDefer (ops : Array Oper) : Bool := ops.all fun o => match o.op with | .defer _ => false | _ => true
theorem noDefer_at {i : Nat} {o : Oper} (h : noDefer ops = true) (ho : ops[i]? = some o) : ∀ c, o.op ≠ .defer c := fun c e => by
  unfold noDefer at h
  rw [Array.all_eq_true] at h
  obtain ⟨hi, rfl⟩ := Array.getElem?_eq_some_iff.1 ho
  have := h i hi
  rw [e] at this
  cases this
theorem wpOpIn_of_wpOp_round {i : Nat} {a : Act} {w : World} {K : Act → World → Prop} {Q : Exit → Act → World → Prop} (hd : noDefer ops = true) (hQ : ¬ LetsOut Q) (h : wpOp P ops Q i K a w) : wpOpIn (Fence.wide.inRound l) n P ops Q i K a w := by
  unfold wpOp at h
  unfold wpOpIn
  cases ho : ops[i]? with
  | none => rw [ho] at h; exact h
  | some o =>
    rw [ho] at h
    dsimp only at h ⊢
    split
    · rename_i hw
      rw [if_pos hw] at h
      rcases h with h | h
      · exact wpIn_of_wp_round (noDefer_at hd ho) h
      · exact absurd h.2 hQ
    · rename_i hw
      rw [if_neg hw] at h
      exact ⟨fun _ _ => trivial, h⟩
theorem wpAnyIn_of_wpAny_round {Q : Exit → Act → World → Prop} (hd : noDefer ops = true) (hQ : ¬ LetsOut Q) : ∀ (fuel : Nat) (listed : Array Bool) (a : Act) (w : World), wpAny P md ops Q fuel listed a w → wpAnyIn (Fence.wide.inRound l) n P md ops Q fuel listed a w
  | 0, _, _, _, h => h
  | fuel + 1, _, _, _, h => ⟨h.1, fun i hi => wpOpIn_mono (fun a' w' h' => wpAnyIn_of_wpAny_round hd hQ fuel _ a' w' h') (wpOpIn_of_wpOp_round hd hQ (h.2 i hi))⟩
theorem region_round_any {id : Nat} {Q : Exit → Act → World → Prop} {K : Act → World → Prop} {a : Act} {w : World} (hm : P.follows .mixedOrders = true) (hd : noDefer ops = true) (hK : ∀ a w, K a w → Q .normal a w)
    (h : wpAny P .any ops (Only K) ops.size (Array.replicate ops.size false) a w.drew) : (Code.region id ops true).wpIn (Fence.wide.inRound l) n P Q a w :=
  wpIn_mono (wpIn_region_any hm (wpAnyIn_of_wpAny_round hd Only.no _ _ _ _ h)) fun e a' w' hq => by
    cases e <;> first | exact hK _ _ hq | exact (hq : False).elim
/-- A region whose operations only read. -/
theorem region_round_quiet {id : Nat} {Q : Exit → Act → World → Prop} {a : Act} {w : World} {os : List Oper} (hm : P.follows .mixedOrders = true) (hB : Region.lexB .any os.toArray = true) (hd : noDefer os.toArray = true)
    (h : wpQuiet P os.toArray (fun w' => ∃ n, w' = w.drewN n) (fun a' => ∀ w', (∃ n, w' = w.drewN n) → Q .normal a' w') os a) : (Code.region id os.toArray true).wpIn (Fence.wide.inRound l) n P Q a w := by
  simp only [Region.lexB, Bool.and_eq_true] at hB
  refine region_round_any (K := fun a' w' => Q .normal a' w') hm hd (fun _ _ h => h) (wpAny_of_quiet (Q := fun a' => ∀ w', (∃ n, w' = w.drewN n) → Q .normal a' w') (Q' := Only fun a' w' => Q .normal a' w') (C := fun w' => ∃ n, w' = w.drewN n) (fun _ w' hw' h => h w' hw') _ _ _ _ ⟨1, rfl⟩ ?_)
  have := wpAnyQ_lex (C := fun w' => ∃ n, w' = w.drewN n) (md := .any) hB.1 os 0 (Array.replicate os.toArray.size false) a (by simp) (by simpa using hB.2) h
  simpa using this
/-! ### Loads first, a condition on the world that need not hold behind the last operations (from m on) -/
/-- Whatever order is picked; behind each operation below m the condition holds. -/
def wpT (P : Program) (md : Region.Mode) (ops : Array Oper) (Q : Exit → Act → World → Prop) (S : World → Prop) (m : Nat) : Nat → Array Bool → Act → World → Prop
  | 0, listed, a, w => Region.ready md ops listed = [] ∧ Q .normal a w
  | fuel + 1, listed, a, w =>
    (Region.ready md ops listed = [] → Q .normal a w) ∧
    ∀ i ∈ Region.ready md ops listed, wpOp P ops Q i (fun a' w' => (i < m → S w') ∧ wpT P md ops Q S m fuel (listed.setIfInBounds i true) a' w') a w
section
variable {Q : Exit → Act → World → Prop} {S : World → Prop} {m : Nat}
theorem wpAny_of_T : ∀ (fuel : Nat) (listed : Array Bool) (a : Act) (w : World), wpT P md ops Q S m fuel listed a w → wpAny P md ops Q fuel listed a w
  | 0, _, _, _, h => h
  | fuel + 1, _, _, _, h => ⟨h.1, fun i hi => wpOp_mono (fun a' w' h' => wpAny_of_T fuel _ a' w' h'.2) (h.2 i hi)⟩
/-- Those that wait for number i, and i. -/
def waiters (md : Region.Mode) (ops : Array Oper) (i : Nat) : List Nat := (List.range ops.size).foldl (fun C j => if ((ops[j]?).any fun o => o.after.any fun e => Region.binds md e && C.contains e.on) then C ++ [j] else C) [i]
/-- None of them has come up; the last ones are among them. -/
def tailB (md : Region.Mode) (ops : Array Oper) (L : Array Bool) (m i : Nat) (C : List Nat) : Bool :=
  (C.all fun c => c == i || ((ops[c]?).any fun o => o.after.any fun e => Region.binds md e && C.contains e.on)) && (C.all fun c => !(L.getD c true)) && ((List.range ops.size).all fun j => decide (j < m) || L.getD j true || C.contains j)
theorem wpT_first {i : Nat} {oi : Oper} {v : Value} {C : List Nat} (hi : ops[i]? = some oi) (hsel : ∀ (j : Nat) (o : Oper) cs b, ops[j]? = some o → o.op ≠ .select cs b)
    (hQ : ∀ c a w, Q (.panic c) (a.put oi.dst v) w → Q (.panic c) a w)
    (hC : ∀ c ∈ C, c ≠ i → ∀ o, ops[c]? = some o → ∃ e ∈ o.after, Region.binds md e = true ∧ e.on ∈ C) :
    ∀ (fuel : Nat) (listed : Array Bool) (a : Act) (w : World),
      (∀ c ∈ C, listed.getD c true = false) → (∀ j, j < ops.size → m ≤ j → listed.getD j true = false → j ∈ C) →
      (∀ j oj, ops[j]? = some oj → j ≠ i → listed.getD j true = false → (∀ e ∈ oj.after, Region.binds md e = true → e.on ≠ i) → oi.apart ops oj = true) →
      i ∈ Region.ready md ops listed → YieldsIf P ops S oi v a → S w →
      wpT P md ops Q S m fuel (listed.setIfInBounds i true) (a.put oi.dst v) w → wpT P md ops Q S m (fuel + 1) listed a w := by
  have low : ∀ {listed : Array Bool} {j : Nat} {oj : Oper}, (∀ c ∈ C, listed.getD c true = false) → j ≠ i → ops[j]? = some oj → (∀ e ∈ oj.after, Region.binds md e = true → listed.getD e.on false = true) → j ∉ C := by
    intro listed j oj hun hji hoj hall hjC
    obtain ⟨e, he, hb, hc⟩ := hC j hjC hji oj hoj
    have h1 := hall e he hb
    have h0 := hun _ hc
    rcases Nat.lt_or_ge e.on listed.size with h' | h'
    · simp [h'] at h0 h1; rw [h0] at h1; cases h1
    · simp [Array.getElem?_eq_none h'] at h1
  intro fuel
  induction fuel with
  | zero =>
    intro listed a w hun htl _ hr hy hS H
    refine ⟨fun h => (by rw [h] at hr; cases hr), fun j hj => ?_⟩
    by_cases hji : j = i
    · subst hji; exact hy.wpOp hi hS ⟨fun _ => hS, H⟩
    · have := ready_mono hj hji
      rw [H.1] at this
      cases this
  | succ fuel ih =>
    intro listed a w hun htl hfree hr hy hS H
    refine ⟨fun h => (by rw [h] at hr; cases hr), fun j hj => ?_⟩
    by_cases hji : j = i
    · subst hji; exact hy.wpOp hi hS ⟨fun _ => hS, H⟩
    · have h1 := H.2 j (ready_mono hj hji)
      obtain ⟨hjun, oj, hoj, hall⟩ := mem_ready.1 hj
      have hnot : ∀ e ∈ oj.after, Region.binds md e = true → e.on ≠ i := fun e he hb heq => by
        have h1 := hall e he hb
        have h0 := (mem_ready.1 hr).1
        rw [heq] at h1
        rcases Nat.lt_or_ge i listed.size with h' | h'
        · simp [h'] at h0 h1; rw [h0] at h1; cases h1
        · simp [Array.getElem?_eq_none h'] at h1
      have hjC : j ∉ C := low hun hji hoj hall
      have hjm : j < m := Nat.lt_of_not_le fun h => hjC (htl j (Array.getElem?_eq_some_iff.1 hoj).1 h hjun)
      have h2 := wpOp_putIf hoj (hfree j oj hoj hji hjun hnot) (fun cs b => hsel i oi cs b hi) (fun cs b => hsel j oj cs b hoj) hQ hy h1
      have hun' : ∀ c ∈ C, (listed.setIfInBounds j true).getD c true = false := fun c hc => by
        by_cases hjc : j = c
        · subst hjc; exact absurd hc hjC
        · rw [getD_set_ne true hjc]; exact hun c hc
      have htl' : ∀ k, k < ops.size → m ≤ k → (listed.setIfInBounds j true).getD k true = false → k ∈ C := fun k hk hmk hl => by
        refine htl k hk hmk ?_
        by_cases hjk : j = k
        · subst hjk; exact hjun
        · rw [getD_set_ne true hjk] at hl; exact hl
      have hfree' : ∀ k ok, ops[k]? = some ok → k ≠ i → (listed.setIfInBounds j true).getD k true = false →
          (∀ e ∈ ok.after, Region.binds md e = true → e.on ≠ i) → oi.apart ops ok = true := fun k ok hk hki hun hno => by
        refine hfree k ok hk hki ?_ hno
        by_cases hjk : j = k
        · subst hjk; exact hjun
        · rw [getD_set_ne true hjk] at hun; exact hun
      refine wpOp_mono (fun a' w' h3 => ⟨h3.2.1, ih (listed.setIfInBounds j true) a' w' hun' htl' hfree' (ready_mono hr (Ne.symm hji)) h3.1 (h3.2.1 hjm) ?_⟩) h2
      rw [Array.setIfInBounds_comm _ _ hji]
      exact h3.2.2
/-- Number i is taken first. -/
theorem wpT_take {i : Nat} (d : Option Tmp) {oi : Oper} {v : Value} {fuel : Nat} {listed : Array Bool} {a : Act} {w : World} (hi : ops[i]? = some oi)
    (hs : Region.noSelect ops = true) (hf : Region.free md ops listed i = true) (hr : (Region.ready md ops listed).contains i = true) (hT : tailB md ops listed m i (waiters md ops i) = true)
    (hQ : ∀ c a w, Q (.panic c) (a.put oi.dst v) w → Q (.panic c) a w) (hdd : oi.dst = d) (hy : YieldsIf P ops S oi v a) (hS : S w)
    (h : wpT P md ops Q S m fuel (listed.setIfInBounds i true) (a.put d v) w) : wpT P md ops Q S m (fuel + 1) listed a w := by
  subst hdd
  unfold tailB at hT
  simp only [Bool.and_eq_true] at hT
  obtain ⟨⟨h1, h2⟩, h3⟩ := hT
  refine wpT_first (C := waiters md ops i) hi (Region.noSelect_spec hs) hQ (fun c hc hci o ho => ?_) fuel listed a w (fun c hc => ?_) (fun j hj hm hl => ?_) (Region.free_spec hi hf) (by simpa using hr) hy hS h
  · have := List.all_eq_true.1 h1 c hc
    rw [ho] at this
    simp only [Option.any_some, Bool.or_eq_true, beq_iff_eq, Array.any_eq_true, Bool.and_eq_true, List.contains_iff_mem] at this
    rcases this with e | ⟨k, hk, e1, e2⟩
    · exact absurd e hci
    · exact ⟨_, Array.getElem_mem hk, e1, e2⟩
  · have := List.all_eq_true.1 h2 c hc
    simpa using this
  · have := List.all_eq_true.1 h3 j (List.mem_range.2 hj)
    rw [hl] at this
    simp only [Bool.or_false, Bool.or_eq_true, decide_eq_true_eq, List.contains_iff_mem] at this
    rcases this with h | h
    · omega
    · exact h
/-- Each of those that may come up comes up. -/
def AllT (P : Program) (md : Region.Mode) (ops : Array Oper) (Q : Exit → Act → World → Prop) (S : World → Prop) (m fuel : Nat) (listed : Array Bool) (a : Act) (w : World) (rs : List Nat) : Prop :=
  ∀ i ∈ rs, wpOp P ops Q i (fun a' w' => (i < m → S w') ∧ wpT P md ops Q S m fuel (listed.setIfInBounds i true) a' w') a w
theorem AllT.nil {fuel : Nat} {listed : Array Bool} {a : Act} {w : World} : AllT P md ops Q S m fuel listed a w [] := fun _ h => by cases h
theorem AllT.cons {fuel : Nat} {listed : Array Bool} {a : Act} {w : World} {i : Nat} {o : Oper} {rs : List Nat} (ho : ops[i]? = some o)
    (h : ∀ K' : Act → World → Prop, Shut (∀ a w, (i < m → S w) → ((i < m → S w) → wpT P md ops Q S m fuel (listed.setIfInBounds i true) a w) → K' a w) → if Region.wanted o (yielded ops a.tmps) = true then Oper.wp P o a w K' Q else K' (a.put o.dst undef) w)
    (hs : AllT P md ops Q S m fuel listed a w rs) : AllT P md ops Q S m fuel listed a w (i :: rs) := fun j hj => by
  rcases List.mem_cons.1 hj with rfl | hj
  · exact wpOp_step ho (fun K' hK => h K' (fun a w hS hW => hK a w ⟨hS, hW hS⟩))
  · exact hs j hj
theorem wpT_ready {rs : List Nat} {fuel : Nat} {listed : Array Bool} {a : Act} {w : World} (hr : Region.ready md ops listed = rs) (hne : rs ≠ [])
    (h : AllT P md ops Q S m fuel listed a w rs) : wpT P md ops Q S m (fuel + 1) listed a w := ⟨fun h0 => absurd (hr ▸ h0) hne, hr ▸ h⟩
theorem wpT_done {listed : Array Bool} {a : Act} {w : World} (hr : Region.ready md ops listed = []) (h : Q .normal a w) : ∀ fuel, wpT P md ops Q S m fuel listed a w
  | 0 => ⟨hr, h⟩
  | _ + 1 => ⟨fun _ => h, by rw [hr]; simp⟩
end
/-- A region in a round, loads first. -/
theorem region_round_T {id : Nat} {Q : Exit → Act → World → Prop} {a : Act} {w : World} (S : World → Prop) (m : Nat) (hm : P.follows .mixedOrders = true) (hd : noDefer ops = true) (hS : S w.drew)
    (h : ∀ K : Act → World → Prop, Shut (∀ a w, Q .normal a w → K a w) → S w.drew → wpT P .any ops (Only K) S m ops.size (Array.replicate ops.size false) a w.drew) : (Code.region id ops true).wpIn (Fence.wide.inRound l) n P Q a w :=
  region_round_any (K := fun a' w' => Q .normal a' w') hm hd (fun _ _ h => h) (wpAny_of_T _ _ _ _ (h _ (fun _ _ h => h) hS))
/-- A region, loads first. -/
theorem region_T {id : Nat} {Q : Exit → Act → World → Prop} {a : Act} {w : World} (S : World → Prop) (m : Nat) (hm : P.follows .mixedOrders = true) (hS : S w.drew)
    (h : ∀ K : Act → World → Prop, Shut (∀ a w, Q .normal a w → K a w) → S w.drew → wpT P .any ops (Only K) S m ops.size (Array.replicate ops.size false) a w.drew) : (Code.region id ops true).wp P Q a w :=
  Code.wp_mono (fun e a' w' hq => by cases e <;> first | exact hq | exact (hq : False).elim) (wp_region_any (Q := Only fun a' w' => Q .normal a' w') hm (wpAny_of_T _ _ _ _ (h _ (fun _ _ h => h) hS)))
end
end Go.Proofs.Ytpnnnhdhmdildaa.RF
