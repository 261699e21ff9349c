/- The plain law of hash.Prefix: what a beginning finds. -/
import Derived.Test.YtcjkichimndioabPHash
import Derived.Test.YtcjkichimndioabQx3
import Derived.Test.YtcjkichimndioabQx2
import Derived.Test.YtcjkichimndioabQx2
namespace Go.Proofs.Ytcjkichimndioab.B
open Go.RowKit Go.Proofs.Ytcjkichimndioab.PW Go.Proofs.Ytcjkichimndioab.Given Go.Proofs.Ytcjkichimndioab.Q Go.Proofs.YtcjkichimndioabW.PrintWords Go.Proofs.YtcjkichimndioabW.PrintMore
/-- Does a text begin so? -/
def beg (s p : ByteArray) : Bool := decide (p.size ≤ s.size ∧ cutS s 0 p.size = p)
theorem beg_ev (s p : ByteArray) : strings_HasPrefix.f s p = some (beg s p) := by
  unfold strings_HasPrefix.f stringslite_HasPrefix.f beg
  by_cases h : p.size ≤ s.size
  · rw [if_pos (by omega), if_pos (by omega), if_pos (by omega), Int.toNat_natCast]
    show some _ = some _
    congr 1
    by_cases e : cutS s 0 p.size = p
    · rw [decide_eq_true ⟨h, e⟩, beq_iff_eq]; rw [e]
    · rw [decide_eq_false (fun x => e x.2), beq_eq_false_iff_ne]; exact fun x => e (toList_eq'.1 x)
  · rw [if_neg (by omega), decide_eq_false (fun x => h x.1)]; rfl
/-- What the names that are left make of what was found. -/
def prf (p : ByteArray) : List ByteArray → ByteArray → Bool → ByteArray × Bool
  | [], out, ok => if p.size < 4 then (⟨#[]⟩, false) else (out, ok)
  | s :: l, out, ok => if beg s p = false ∨ (ok = true ∧ s = out) then prf p l out ok else if ok = true then (⟨#[]⟩, false) else prf p l s true
theorem rd_drop {l : List ByteArray} {i : Nat} {s : ByteArray} {r : List ByteArray} (h : l.drop i = s :: r) : rdOf ByteArray.empty l (i : Int) = s ∧ l.drop (i + 1) = r ∧ i < l.length := by
  have hi : i < l.length := by
    have := congrArg List.length h
    rw [List.length_drop, List.length_cons] at this
    omega
  rw [List.drop_eq_getElem_cons hi] at h
  injection h with h1 h2
  refine ⟨?_, h2, hi⟩
  unfold rdOf
  rw [Int.toNat_natCast, List.getD_eq_getElem?_getD, List.getElem?_eq_getElem hi]
  exact h1
theorem prefix_loop (p : ByteArray) (l : List ByteArray) (hl : l.length ≤ 4611686018427387904) (r : List ByteArray) : ∀ (i : Nat) (out : ByteArray) (ok : Bool), l.drop i = r → i ≤ l.length →
    Ev (fun k => hash_Prefix.l0 k p out ok l l.length i) (prf p r out ok) := by
  induction r with
  | nil =>
    intro i out ok hd hi
    have hi' : i = l.length := by
      have := congrArg List.length hd
      rw [List.length_drop, List.length_nil] at this
      omega
    refine Ev.step (fun k => hash_Prefix.l0.eq_2 p out ok l l.length i k) (Ev.nn (by omega) ?_)
    unfold prf
    by_cases h : p.size < 4
    · rw [if_pos h]; exact Ev.ip (by omega) (Ev.now _)
    · rw [if_neg h]; exact Ev.nn (by omega) (Ev.now _)
  | cons s r ih =>
    intro i out ok hd hi
    obtain ⟨hs, hr, hlt⟩ := rd_drop hd
    refine Ev.step (fun k => hash_Prefix.l0.eq_2 p out ok l l.length i k) (Ev.ip (by omega) (Ev.ip (by omega) (Ev.ip (by omega) ?_)))
    rw [hs]
    refine Ev.cb (beg_ev s p) ?_
    have w1 : wrap64 ((i : Int) + 1) = ((i + 1 : Nat) : Int) := wn hlt hl
    have skip : Ev (fun k => hash_Prefix.j1 k p out ok s l l.length i true) (prf p r out ok) := by
      refine Ev.step (fun k => hash_Prefix.j1.eq_2 p out ok s l l.length i true k) (Ev.ip rfl ?_)
      rw [w1]
      exact ih (i + 1) out ok hr (by omega)
    have take : Ev (fun k => hash_Prefix.j1 k p out ok s l l.length i false) (if ok = true then (⟨#[]⟩, false) else prf p r s true) := by
      refine Ev.step (fun k => hash_Prefix.j1.eq_2 p out ok s l l.length i false k) (Ev.nn (by decide) ?_)
      rw [w1]
      by_cases h : ok = true
      · rw [if_pos h]; exact Ev.ip h (Ev.now _)
      · rw [if_neg h]; exact Ev.nn h (ih (i + 1) s true hr (by omega))
    rw [prf]
    by_cases hb : beg s p = true
    · refine Ev.ip hb ?_
      by_cases h : ok = true
      · refine Ev.ip h ?_
        by_cases e : s = out
        · rw [if_pos (Or.inr ⟨h, e⟩), show (s.toList == out.toList) = true by rw [e]; exact beq_self_eq_true _]
          exact skip
        · rw [if_neg (fun z => z.elim (fun x => by rw [hb] at x; cases x) (fun x => e x.2)), show (s.toList == out.toList) = false from beq_eq_false_iff_ne.2 (fun x => e (toList_eq'.1 x))]
          exact take
      · refine Ev.nn h ?_
        rw [if_neg (fun z => z.elim (fun x => by rw [hb] at x; cases x) (fun x => h x.1))]
        exact take
    · refine Ev.nn hb ?_
      rw [if_pos (Or.inl (by simpa using hb))]
      exact skip
theorem prefix_ev (l : List ByteArray) (hl : l.length ≤ 4611686018427387904) (p : ByteArray) : Ev (fun k => hash_Prefix.f k l p) (prf p l ⟨#[]⟩ false) := by
  unfold hash_Prefix.f
  exact prefix_loop p l hl l 0 _ _ rfl (by omega)
/-- Those that begin so are one text, which stands there: it is found. -/
theorem prf_on (p x : ByteArray) (l : List ByteArray) (h : ∀ s ∈ l, beg s p = true → s = x) : prf p l x true = if p.size < 4 then (⟨#[]⟩, false) else (x, true) := by
  induction l with
  | nil => rfl
  | cons s l ih =>
    rw [prf]
    by_cases hb : beg s p = true
    · rw [if_pos (Or.inr ⟨rfl, h s (List.mem_cons_self ..) hb⟩)]
      exact ih fun s hs => h s (List.mem_cons_of_mem _ hs)
    · rw [if_pos (Or.inl (by simpa using hb))]
      exact ih fun s hs => h s (List.mem_cons_of_mem _ hs)
theorem prf_one (p x : ByteArray) (l : List ByteArray) (hx : x ∈ l) (hb : beg x p = true) (h : ∀ s ∈ l, beg s p = true → s = x) : prf p l ⟨#[]⟩ false = if p.size < 4 then (⟨#[]⟩, false) else (x, true) := by
  induction l with
  | nil => cases hx
  | cons s l ih =>
    rw [prf]
    by_cases hs : beg s p = true
    · rw [if_neg (fun z => z.elim (fun x => by rw [hs] at x; cases x) (fun x => by cases x.1)), if_neg (by decide), h s (List.mem_cons_self ..) hs]
      exact prf_on p x l fun s hs => h s (List.mem_cons_of_mem _ hs)
    · rw [if_pos (Or.inl (by simpa using hs))]
      refine ih ?_ fun s hs => h s (List.mem_cons_of_mem _ hs)
      cases hx with
      | head => exact absurd hb hs
      | tail _ hx => exact hx
theorem prf_none (p : ByteArray) (l : List ByteArray) (h : ∀ s ∈ l, beg s p = false) : prf p l ⟨#[]⟩ false = (⟨#[]⟩, false) := by
  induction l with
  | nil => unfold prf; split <;> rfl
  | cons s l ih =>
    rw [prf, if_pos (Or.inl (h s (List.mem_cons_self ..)))]
    exact ih fun s hs => h s (List.mem_cons_of_mem _ hs)
/-- Another one that begins so is met: none is found. -/
theorem prf_two_on (p x y : ByteArray) (l : List ByteArray) (hy : y ∈ l) (hb : beg y p = true) (hne : y ≠ x) : prf p l x true = (⟨#[]⟩, false) := by
  induction l with
  | nil => cases hy
  | cons s l ih =>
    rw [prf]
    by_cases g : beg s p = false ∨ (true = true ∧ s = x)
    · rw [if_pos g]
      refine ih ?_
      cases hy with
      | head => exact absurd g (fun z => z.elim (fun x => by rw [hb] at x; cases x) (fun x => hne x.2))
      | tail _ hy => exact hy
    · rw [if_neg g, if_pos rfl]
theorem prf_two (p x y : ByteArray) (l : List ByteArray) (hx : x ∈ l) (hbx : beg x p = true) (hy : y ∈ l) (hb : beg y p = true) (hne : y ≠ x) : prf p l ⟨#[]⟩ false = (⟨#[]⟩, false) := by
  induction l with
  | nil => cases hy
  | cons s l ih =>
    rw [prf]
    by_cases hs : beg s p = true
    · rw [if_neg (fun z => z.elim (fun x => by rw [hs] at x; cases x) (fun x => by cases x.1)), if_neg (by decide)]
      by_cases e : s = x
      · refine prf_two_on p s y l ?_ hb (by rw [e]; exact hne)
        cases hy with
        | head => exact absurd e hne
        | tail _ hy => exact hy
      · refine prf_two_on p s x l ?_ hbx (fun z => e z.symm)
        cases hx with
        | head => exact absurd rfl e
        | tail _ hx => exact hx
    · rw [if_pos (Or.inl (by simpa using hs))]
      refine ih ?_ ?_
      · cases hx with
        | head => exact absurd hbx hs
        | tail _ hx => exact hx
      · cases hy with
        | head => exact absurd hb hs
        | tail _ hy => exact hy
end Go.Proofs.Ytcjkichimndioab.B
