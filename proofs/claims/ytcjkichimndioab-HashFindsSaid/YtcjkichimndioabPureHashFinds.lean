/- For any names of some sums: a beginning that one name alone has finds it, however often it stands there; one that two have, that none has, or that is too short finds none. No condition. -/
import Derived.Test.YtcjkichimndioabPPrefix
import Derived.Test.YtcjkichimndioabPDigit
import Derived.Test.YtcjkichimndioabQx4
namespace Go.Proofs.Ytcjkichimndioab.Pure
open Go.RowKit Go.Proofs.Ytcjkichimndioab.B Go.Proofs.Ytcjkichimndioab.PW Go.Proofs.Ytcjkichimndioab.Given Go.Proofs.Ytcjkichimndioab.Q Go.Proofs.YtcjkichimndioabW.PrintWords Go.Proofs.YtcjkichimndioabW.PrintMore
theorem beg_cut (x y : ByteArray) (c : Nat) (hx : c ≤ x.size) (hy : c ≤ y.size) : beg y (cutS x 0 c) = decide (cutS y 0 c = cutS x 0 c) := by
  have s0 : (cutS x 0 c).size = c := by rw [size_cut hx]; omega
  unfold beg
  rw [s0]
  congr 1
  simp [hy]
theorem ne_empty {x : ByteArray} (hx : x.size = 40) : (([] : List UInt8) == x.toList) = false := by
  refine beq_eq_false_iff_ne.2 fun h => ?_
  have e := toList_nil.1 h.symm
  rw [e] at hx
  cases hx
theorem empty_toList : (⟨#[]⟩ : ByteArray).toList = ([] : List UInt8) := toList_nil.2 rfl
/-- Is this name the one, or doesn't it begin so? -/
def okN (x p : ByteArray) (c : Nat) (y : ByteArray) : Bool := decide (y = x ∨ cutS y 0 c ≠ p)
theorem finds_end (names : List ByteArray) (x : ByteArray) (c : Nat) (hx : x ∈ names) (hs : ∀ y ∈ names, y.size = 40) (hl : names.length ≤ 12) (hc : c ≤ 40) (b : Bool) (hb : b = names.all (okN x (cutS x 0 c) c)) (n i : Int) (hi : ¬ i < n) :
    Ev (fun k => ammonitelaw1_HashFinds.l1 k names x c (cutS x 0 c) b names n i) true := by
  have hxs := hs x hx
  have s6 : (⟨#[48]⟩ : ByteArray).size = 1 := rfl
  have sp : (cutS x 0 c).size = c := by rw [size_cut (by omega)]; omega
  have hnone : prf (catS x ⟨#[48]⟩) names ⟨#[]⟩ false = (⟨#[]⟩, false) := by
    refine prf_none _ _ fun y hy => decide_eq_false fun z => ?_
    have := hs y hy
    have h1 := z.1
    rw [size_cat] at h1
    omega
  have hbx : beg x (cutS x 0 c) = true := by rw [beg_cut x x c (by omega) (by omega)]; exact decide_eq_true rfl
  have hx2 : x ∈ names ++ names := List.mem_append_left _ hx
  refine Ev.step (fun k => ammonitelaw1_HashFinds.l1.eq_2 names x c (cutS x 0 c) b names n i k) (Ev.nn hi (Ev.cb rfl (Ev.ip ?_ (Ev.cb rfl (Ev.ip ?_ ?_)))))
  · simp only [List.length_nil]; omega
  · simp only [List.nil_append]; omega
  refine Ev.bind (prefix_ev _ (by simp only [List.nil_append, List.length_append]; omega) _) (Ev.ip (by omega) (Ev.bind (Ev.eq hnone (prefix_ev names (by omega) _)) ?_))
  rw [List.nil_append]
  by_cases g : b = true
  · refine Ev.ip g ?_
    have hall : ∀ s ∈ names ++ names, beg s (cutS x 0 c) = true → s = x := by
      intro s hs' hbs
      have hsn : s ∈ names := by rcases List.mem_append.1 hs' with h | h <;> exact h
      have h1 := (List.all_eq_true.1 (hb.symm.trans g)) s hsn
      have h2 := of_decide_eq_true h1
      rw [beg_cut x s c (by omega) (by rw [hs s hsn]; exact hc)] at hbs
      rcases h2 with h2 | h2
      · exact h2
      · exact absurd (of_decide_eq_true hbs) h2
    rw [prf_one _ x _ hx2 hbx hall, sp]
    by_cases h4 : c < 4
    · rw [if_pos h4]
      dsimp only
      refine Ev.ip ?_ (Ev.ip ?_ (Ev.nn (by decide) (Ev.ip empty_toList (Ev.nn (by decide) (Ev.bind hruns (Ev.now _))))))
      · simp; omega
      · rw [empty_toList, ne_empty hxs]; rfl
    · rw [if_neg h4]
      dsimp only
      refine Ev.ip ?_ (Ev.ip ?_ (Ev.ip rfl (Ev.nn (by decide) (Ev.bind hruns (Ev.now _)))))
      · simp; omega
      · simp
  · refine Ev.nn g ?_
    have hf : names.all (okN x (cutS x 0 c) c) = false := by rw [← hb]; simpa using g
    obtain ⟨y, hy, hok⟩ : ∃ y ∈ names, ¬ (okN x (cutS x 0 c) c y = true) := by simpa using hf
    have hno : ¬ (y = x ∨ cutS y 0 c ≠ cutS x 0 c) := fun z => hok (decide_eq_true z)
    have hyx : y ≠ x := fun z => hno (Or.inl z)
    have hyc : cutS y 0 c = cutS x 0 c := Decidable.byContradiction fun z => hno (Or.inr z)
    have hby : beg y (cutS x 0 c) = true := by rw [beg_cut x y c (by omega) (by rw [hs y hy]; exact hc)]; exact decide_eq_true hyc
    rw [prf_two _ x y _ hx2 hbx (List.mem_append_left _ hy) hby hyx]
    dsimp only
    refine Ev.ip rfl (Ev.ip ?_ (Ev.nn (by decide) (Ev.ip empty_toList (Ev.nn (by decide) (Ev.bind hruns (Ev.now _))))))
    rw [empty_toList, ne_empty hxs]; rfl
theorem finds_loop (names : List ByteArray) (x : ByteArray) (c : Nat) (hx : x ∈ names) (hs : ∀ y ∈ names, y.size = 40) (hl : names.length ≤ 12) (hc : c ≤ 40) (r : List ByteArray) : ∀ (i : Nat) (b : Bool), names.drop i = r → i ≤ names.length →
    (b && r.all (okN x (cutS x 0 c) c)) = names.all (okN x (cutS x 0 c) c) → Ev (fun k => ammonitelaw1_HashFinds.l1 k names x c (cutS x 0 c) b names names.length i) true := by
  induction r with
  | nil =>
    intro i b hd hi hb
    have hi' : i = names.length := by
      have := congrArg List.length hd
      rw [List.length_drop, List.length_nil] at this
      omega
    exact finds_end names x c hx hs hl hc b (by simpa using hb) _ _ (by omega)
  | cons y r ih =>
    intro i b hd hi hb
    obtain ⟨hy, hr, hlt⟩ := rd_drop hd
    have hmem : y ∈ names := by
      have : y ∈ names.drop i := by rw [hd]; exact List.mem_cons_self ..
      exact List.mem_of_mem_drop this
    have hys := hs y hmem
    refine Ev.step (fun k => ammonitelaw1_HashFinds.l1.eq_2 names x c (cutS x 0 c) b names names.length i k) (Ev.ip (by omega) (Ev.ip (by omega) (Ev.ip (by omega) ?_)))
    rw [hy, wn hlt (by omega), Int.toNat_natCast]
    by_cases g : b = true
    · refine Ev.ip g ?_
      subst g
      by_cases e : y = x
      · refine Ev.ip (by rw [e]) ?_
        refine ih (i + 1) true hr (by omega) ?_
        rw [← hb]
        simp [okN, e]
      · refine Ev.nn (fun z => e (toList_eq'.1 z)) (Ev.ip (by omega) (Ev.ip (by omega) ?_))
        refine ih (i + 1) _ hr (by omega) ?_
        rw [← hb]
        by_cases z : cutS y 0 c = cutS x 0 c
        · simp [okN, e, z]
        · have h1 : ((cutS y 0 c).toList != (cutS x 0 c).toList) = true := bne_iff_ne.2 fun q => z (toList_eq'.1 q)
          simp [okN, e, z, h1]
    · refine Ev.nn g (ih (i + 1) false hr (by omega) ?_)
      have g' : b = false := by simpa using g
      rw [← hb, g']
      rfl
theorem finds1 (at_ cut : Int) (names : List ByteArray) (hs : ∀ y ∈ names, y.size = 40) (hl : names.length ≤ 12) : Ev (fun k => ammonitelaw1_HashFinds.j1 k at_ cut names) true := by
  refine Ev.step (fun k => ammonitelaw1_HashFinds.j1.eq_2 at_ cut names k) ?_
  by_cases g : names.length = 0
  · have e : names = [] := List.eq_nil_of_length_eq_zero g
    subst e
    refine Ev.ip rfl (Ev.bind (Ev.eq (prf_none _ [] (fun s h => by cases h)) (prefix_ev [] (by decide) _)) (Ev.nn (by decide) (Ev.bind hruns (Ev.now _))))
  · have e1 : wrap64 ((names.length : Int) - 1) = (names.length : Int) - 1 := w64 (by omega) (by omega)
    obtain ⟨i, ei, i0, i1⟩ := within_ev at_ (lo := 0) (hi := (names.length : Int) - 1) (by omega) (by omega) (by omega)
    obtain ⟨i, rfl⟩ : ∃ m : Nat, i = m := ⟨i.toNat, by omega⟩
    obtain ⟨c, ec, c0, c1⟩ := within_ev cut (lo := 0) (hi := 40) (by omega) (by omega) (by omega)
    obtain ⟨c, rfl⟩ : ∃ m : Nat, c = m := ⟨c.toNat, by omega⟩
    refine Ev.nn (by omega) ?_
    rw [e1]
    have hi : i < names.length := by omega
    have hx : rdOf ByteArray.empty names (i : Int) ∈ names := by
      unfold rdOf
      rw [Int.toNat_natCast, List.getD_eq_getElem?_getD, List.getElem?_eq_getElem hi]
      exact List.getElem_mem hi
    have hxs := hs _ hx
    refine Ev.cb ei (Ev.ip (by omega) (Ev.ip (by omega) (Ev.cb ec (Ev.ip (by omega) (Ev.ip (by omega) ?_)))))
    rw [Int.toNat_natCast]
    exact finds_loop names _ c hx hs hl (by omega) names 0 true rfl (by omega) (by simp)
theorem finds0 (ns : List Int) (at_ cut : Int) (d : Nat) : ∀ (i : Nat) (names : List ByteArray), i + d = 12 → names.length = i → (∀ y ∈ names, y.size = 40) → Ev (fun k => ammonitelaw1_HashFinds.l0 k ns at_ cut names i) true := by
  induction d with
  | zero =>
    intro i names hi hn hs
    refine Ev.step (fun k => ammonitelaw1_HashFinds.l0.eq_2 ns at_ cut names i k) ?_
    by_cases g : (i : Int) < (ns.length : Int)
    · exact Ev.ip g (Ev.nn (by omega) (finds1 at_ cut names hs (by omega)))
    · exact Ev.nn g (finds1 at_ cut names hs (by omega))
  | succ d ih =>
    intro i names hi hn hs
    refine Ev.step (fun k => ammonitelaw1_HashFinds.l0.eq_2 ns at_ cut names i k) ?_
    by_cases g : (i : Int) < (ns.length : Int)
    · have s5 : (strOfNums [(Go.bits .and .i64 (rd ns (i : Int)) 7) % 256]).size = 1 := size_nums _
      refine Ev.ip g (Ev.ip (by omega) (Ev.ip (by omega) (Ev.cb (rsum_some _ (by omega)) (Ev.ip (by omega) ?_))))
      rw [wn (i := i) (n := 12) (by omega) (by omega)]
      refine ih (i + 1) _ (by omega) (by simp [hn]) ?_
      intro y hy
      rcases List.mem_append.1 hy with h | h
      · exact hs y h
      · rw [List.mem_singleton] at h
        rw [h]; exact sum_size _
    · exact Ev.nn g (finds1 at_ cut names hs (by omega))
theorem HashFinds : ammonitelaw1_HashFinds.Pure := by
  intro ns at_ cut _ _ _ _ _
  refine Ev.rounds (g := fun k => ammonitelaw1_HashFinds.f k ns at_ cut) ?_
  unfold ammonitelaw1_HashFinds.f
  exact finds0 ns at_ cut 12 0 [] rfl rfl (fun y h => by cases h)
end Go.Proofs.Ytcjkichimndioab.Pure
