/- escape.Words: the iterator's contract. -/
import Derived.Test.YtgmjbnglenmlpaaRF
import Derived.Test.YtgmjbnglenmlpaaCut
import Derived.Test.YtgmjbnglenmlpaaWLast
import Derived.RangeFuncBox
import Derived.OwnWalkIn
import Derived.TacticsInMore
import Derived.LoopNIn
import Derived.LoopIn
import Derived.Shelf.Abstract
import Derived.Lib.SmallJoins
set_option linter.unusedVariables false
set_option linter.unusedSimpArgs false
namespace Go.Proofs.Ytgmjbnglenmlpaa.Given
open Go.RowKit Go.Proofs.YtgmjbnglenmlpaaW.PrintWords Go.Proofs.Ytgmjbnglenmlpaa.RF
attribute [local go_sem] Oper.semAt_some
/-- The parts that blanks part, with so much fuel. -/
def wordsF : Nat → ByteArray → List ByteArray
  | 0, s => [s]
  | n + 1, s => if (cutI s 32).2.2 = true then (cutI s 32).1 :: wordsF n (cutI s 32).2.1 else [(cutI s 32).1]
def wordsL (s : ByteArray) : List ByteArray := wordsF s.size s
theorem cutI_size (s : ByteArray) (h : (cutI s 32).2.2 = true) : (cutI s 32).2.1.size < s.size ∧ (cutI s 32).1.size ≤ s.size := by
  have hi := idx_lt s.data.toList 32
  have hl : (s.data.toList.length : Int) = s.size := by rw [Array.length_toList]; rfl
  rw [hl] at hi
  unfold cutI at h ⊢
  split at h
  · cases h
  · rename_i g
    rw [if_neg g]
    simp only [ByteArray.size_extract]
    omega
theorem wordsF_fuel (f : Nat) : ∀ (g : Nat) (s : ByteArray), s.size ≤ f → s.size ≤ g → wordsF g s = wordsF f s := by
  induction f with
  | zero =>
    intro g s h _
    have h0 : (cutI s 32).2.2 = false := by
      cases hb : (cutI s 32).2.2 with
      | false => rfl
      | true => have := cutI_size s hb; omega
    have h1 : (cutI s 32).1 = s := by
      unfold cutI at h0 ⊢
      split at h0
      · rename_i g; rw [if_pos g]
      · cases h0
    cases g with
    | zero => rfl
    | succ g => unfold wordsF; rw [if_neg (by rw [h0]; decide), h1]
  | succ f ih =>
    intro g s h hg
    cases g with
    | zero =>
      have h0 : (cutI s 32).2.2 = false := by
        cases hb : (cutI s 32).2.2 with
        | false => rfl
        | true => have := cutI_size s hb; omega
      have h1 : (cutI s 32).1 = s := by
        unfold cutI at h0 ⊢
        split at h0
        · rename_i g; rw [if_pos g]
        · cases h0
      unfold wordsF
      rw [if_neg (by rw [h0]; decide), h1]
    | succ g =>
      unfold wordsF
      cases hb : (cutI s 32).2.2 with
      | false => rfl
      | true =>
        have := cutI_size s hb
        rw [if_pos rfl, if_pos rfl, ih g _ (by omega) (by omega)]
theorem wordsL_yes {s : ByteArray} (h : (cutI s 32).2.2 = true) : wordsL s = (cutI s 32).1 :: wordsL (cutI s 32).2.1 := by
  have hs := cutI_size s h
  unfold wordsL
  rw [wordsF_fuel (s.size + 1) s.size s (by omega) (Nat.le_refl _)]
  conv => lhs; unfold wordsF
  rw [if_pos h, wordsF_fuel (cutI s 32).2.1.size s.size _ (Nat.le_refl _) (by omega)]
theorem wordsL_no {s : ByteArray} (h : (cutI s 32).2.2 = false) : wordsL s = [s] := by
  have h1 : (cutI s 32).1 = s := by
    unfold cutI at h ⊢
    split at h
    · rename_i g; rw [if_pos g]
    · cases h
  unfold wordsL
  rw [wordsF_fuel (s.size + 1) s.size s (by omega) (Nat.le_refl _)]
  unfold wordsF
  rw [if_neg (by rw [h]; decide), h1]
set_option maxHeartbeats 1000000 in
/-- escape.Words: the text is boxed; the function value captures the box. -/
theorem words_make (s : ByteArray) (w : World) :
    Calls Try.prog 34 #[.string s] w fun e w' => e = .returned (.func (.func 44) #[] #[.pointer (some ⟨w.heap.size, 0, none⟩)]) ∧ w' = w.alloc (.cells #[.string s] 9) := by
  go_enter Try.func34, Try.ntmps34
  go_wp2
  go_ret
  exact ⟨rfl, rfl⟩
/-- What a round keeps for the iterator: its box. -/
def KpBox (b : Nat) (W W' : World) : Prop := ∀ o, W.heap[b]? = some o → W'.heap[b]? = some o
theorem KpBox.refl (b : Nat) (W : World) : KpBox b W W := fun _ h => h
theorem KpBox.trans {b : Nat} {X Y Z : World} (h : KpBox b X Y) (k : KpBox b Y Z) : KpBox b X Z := fun o ho => k o (h o ho)
theorem KpBox.alloc {b : Nat} {X Y : World} (h : KpBox b X Y) (o : Obj) : KpBox b X (Y.alloc o) := fun o' ho => (Below.heap_alloc _ _ _ (Array.getElem?_eq_some_iff.1 (h o' ho)).1).trans (h o' ho)
theorem KpBox.drew {b : Nat} {X Y : World} (h : KpBox b X Y) (n : Nat) : KpBox b X (Y.drewN n) := h
theorem KpBox.set {b : Nat} {X Y : World} (h : KpBox b X Y) (a : Addr) (hne : b ≠ a.block) (u : Value) : KpBox b X (Y.setCell a u) := fun o ho => (Below.heap_setCell _ _ _ _ hne).trans (h o ho)
theorem KpBox.put {b : Nat} {X Y : World} (h : KpBox b X Y) (l : Nat) (hne : b ≠ l) (o : Obj) : KpBox b X (Y.putObj l o) := fun o' ho => (World.putObj_heap_other hne).trans (h o' ho)
theorem KpBox.grown {b : Nat} {X Y Z : World} (h : KpBox b X Y) {row : Option Nat} (hg : Y.grownBy Z row) (hne : some b ≠ row) : KpBox b X Z := fun o ho => (hg.block b (Array.getElem?_eq_some_iff.1 (h o ho)).1 hne).trans (h o ho)
theorem KpBox.below {b : Nat} {X Y Z : World} (h : KpBox b X Y) {n : Nat} (hg : Below n Y Z) (hlt : b < n) : KpBox b X Z := fun o ho => (hg.block b hlt).trans (h o ho)
set_option maxRecDepth 100000 in
set_option maxHeartbeats 4000000 in
theorem words_yield (n : Nat) (hn : 1 ≤ n) (b : Nat) (s : ByteArray) (hs : s.size ≤ 140737488351232) (w : World) (hb : w.heap[b]? = some (.cells #[.string s] 9 (0, 0))) :
    RF.Yields Fence.wide n Try.prog 44 #[.pointer (some ⟨b, 0, none⟩)] (fun r => r = b) (fun x : ByteArray => #[Value.string x]) (KpBox b) (wordsL s) w := by
  intro l J Jx W hW hJ hJx hY h0
  have hbw : b < w.heap.size := (Array.getElem?_eq_some_iff.1 hb).1
  have hbW : W.heap[b]? = some (.cells #[.string s] 9 (0, 0)) := (hW.block b hbw).trans hb
  refine callsIn_of_wp Try.func44 rfl trivial ?_ rfl
  simp only [Try.ntmps44, List.size_toArray, List.length_cons, List.length_nil, Nat.reduceAdd, Nat.reduceSub, Array.replicate_succ, Array.replicate_zero, List.push_toArray, List.append_toArray, List.nil_append, List.cons_append]
  gi_wp2
  gi_loopw [] (fun wr => ∃ (pre : List ByteArray) (q : ByteArray), wordsL s = pre ++ wordsL q ∧ q.size ≤ s.size ∧ J pre wr ∧ wr.heap[b]? = some (.cells #[.string q] 9 (0, 0))) (fun wr => match wr.cell? ⟨b, 0, none⟩ with | some (.string q) => q.size | _ => 0)
  case atStart => exact ⟨[], s, rfl, Nat.le_refl _, h0, hbW⟩
  case round =>
    obtain ⟨pre, q, hx, hq, hj, hbq⟩ := hrel
    have hc : wr.cell? ⟨b, 0, none⟩ = some (.string q) := by simp [World.cell?, hbq]
    have hcut := fun W => cut_one q 32 W (by omega)
    have hyes := @wordsL_yes q
    have hno := @wordsL_no q
    have hsz := cutI_size q
    have hfst : (cutI q 32).2.2 = false → (cutI q 32).1 = q := by
      unfold cutI
      split
      · intro _; rfl
      · intro h; cases h
    generalize cutI q 32 = r at hcut hyes hno hsz hfst
    obtain ⟨u, v, m⟩ := r
    have sd : ∀ nd, Step (fun r => r = b) wr (wr.drewN nd) := fun nd => ⟨none, ⟨rfl, rfl, rfl, Nat.le_refl _, fun _ _ _ => rfl⟩, fun _ e => by cases e⟩
    cases m with
    | true =>
      have hw := hyes rfl
      have hlt := (hsz rfl).1
      clear hyes hno hfst hsz
      dsimp only at hw hlt hcut
      have hp : pre ++ [u] <+: wordsL s := by rw [hx, hw]; exact ⟨wordsL v, by simp⟩
      have hyd := fun nd => hY pre u (wr.drewN nd) hp (hJ _ _ _ (sd nd) hj)
      have HX := Aside0.mk hx
      have HW := Aside0.mk hw
      have HCU := Aside0.mk hcut
      have HYD := Aside0.mk hyd
      clear hx hw hcut hyd hY hj
      gi_wp2_with (refine ⟨trivial, ?_⟩; gi_at_call 33; refine (callsIn_wide.2 (HCU.out _)).mono ?_; rintro e w' ⟨rfl, ⟨nd, rfl⟩⟩; obtain ⟨fn, tmps, assign, body, hy, hR⟩ := HYD.out nd)
      refine hR.mono ?_
      clear hR hy HYD HCU
      rintro e W3 (⟨rfl, hJ3, hk3⟩ | ⟨rfl, hJx3⟩)
      · have hb3 : W3.heap[b]? = some (.cells #[.string q] 9 (0, 0)) := hk3 _ hbq
        have hc3 : W3.cell? ⟨b, 0, none⟩ = some (.string q) := by simp [World.cell?, hb3]
        have hf3 : W3.frozen? ⟨b, 0, none⟩ = false := by simp [World.frozen?, hb3]
        have hb4 : (W3.setCell ⟨b, 0, none⟩ (.string v)).heap[b]? = some (.cells #[.string v] 9 (0, 0)) := by
          have := Joins.block_setCell hb3 (.string v) (i := 0)
          simpa using this
        have hJ4 := hJ _ _ _ (⟨some b, grownBy_setCell' W3 b (.string v), fun r e => by cases e; rfl⟩ : Step (fun r => r = b) W3 _) hJ3
        have HB4 := Aside0.mk hb4
        have HJ4 := Aside0.mk hJ4
        clear hb4 hJ4 hJ3 hk3
        gi_wp2
        go_roundw
        case rel => exact ⟨pre ++ [u], v, by rw [HX.out, HW.out]; simp, by omega, HJ4.out, HB4.out⟩
        case measure =>
          have h4 : (W3.setCell ⟨b, 0, none⟩ (.string v)).cell? ⟨b, 0, none⟩ = some (.string v) := by simp [World.cell?, HB4.out]
          rw [h4, hc]
          exact hlt
      · gi_wp2
        refine bodyPost_ret (results_none rfl _ _ _) rfl ?_
        exact ⟨⟨_, rfl⟩, .inr ⟨_, hp, hJx3⟩⟩
    | false =>
      have hw := hno rfl
      have hu := hfst rfl
      clear hyes hno hfst hsz
      dsimp only at hw hu hcut
      subst hu
      have hp : pre ++ [u] <+: wordsL s := by rw [hx, hw]; exact ⟨[], by simp⟩
      have he : wordsL s = pre ++ [u] := by rw [hx, hw]
      have hyd := fun nd => hY pre u (wr.drewN nd) hp (hJ _ _ _ (sd nd) hj)
      have HE := Aside0.mk he
      have HCU := Aside0.mk hcut
      have HYD := Aside0.mk hyd
      clear hx hw hcut hyd hY hj he
      gi_wp2_with (refine ⟨trivial, ?_⟩; gi_at_call 33; refine (callsIn_wide.2 (HCU.out _)).mono ?_; rintro e w' ⟨rfl, ⟨nd, rfl⟩⟩; obtain ⟨fn, tmps, assign, body, hy, hR⟩ := HYD.out nd)
      refine hR.mono ?_
      clear hR hy HYD HCU
      rintro e W3 (⟨rfl, hJ3, hk3⟩ | ⟨rfl, hJx3⟩)
      · gi_wp2
        refine bodyPost_ret (results_none rfl _ _ _) rfl ?_
        exact ⟨⟨_, rfl⟩, .inl (by rw [HE.out]; exact hJ3)⟩
      · gi_wp2
        refine bodyPost_ret (results_none rfl _ _ _) rfl ?_
        exact ⟨⟨_, rfl⟩, .inr ⟨_, hp, hJx3⟩⟩
end Go.Proofs.Ytgmjbnglenmlpaa.Given
