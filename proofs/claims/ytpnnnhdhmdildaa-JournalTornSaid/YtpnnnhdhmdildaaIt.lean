/- A disk's walk: the iterator's contract, the contract of All. -/
import Derived.Test.YtpnnnhdhmdildaaRfA
import Derived.Test.YtpnnnhdhmdildaaDk3
import Derived.RangeFuncBox
import Derived.RangeFuncLeaves
import Derived.OwnWalkIn
import Derived.TacticsInMore
import Derived.LoopNIn
import Derived.LoopIn
set_option linter.unusedVariables false
set_option linter.unusedSimpArgs false
namespace Go.Proofs.Ytpnnnhdhmdildaa.Given
open Go.RowKit Go.Proofs.YtpnnnhdhmdildaaW.PrintWords Go.Proofs.Ytpnnnhdhmdildaa.RF
attribute [local go_sem] Oper.semAt_some
/-- What has come behind k rounds. -/
def upto {α : Type} (f : Nat → α) (k : Nat) : List α := (List.range k).map f
theorem upto_succ {α : Type} (f : Nat → α) (k : Nat) : upto f (k + 1) = upto f k ++ [f k] := by simp [upto, List.range_succ]
theorem upto_length {α : Type} (f : Nat → α) (k : Nat) : (upto f k).length = k := by simp [upto]
theorem upto_pre {α : Type} (f : Nat → α) {k n : Nat} (h : k ≤ n) : upto f k <+: upto f n := by
  obtain ⟨m, rfl⟩ := Nat.exists_eq_add_of_le h
  unfold upto
  rw [List.range_add, List.map_append]
  exact List.prefix_append _ _
/-- The sectors, each with its number. -/
def sec (l : List ByteArray) (j : Nat) : Nat × ByteArray := (j, l.getD j ⟨#[]⟩)
def secsOf (l : List ByteArray) : List (Nat × ByteArray) := upto (sec l) l.length
def encS (x : Nat × ByteArray) : Array Value := #[.int .i64 (x.1 : Int), .string x.2]
/-- A walk of sectors as it lies: the box of its slice, the slice's block. -/
structure ItAt (B s g : Nat) (l : List ByteArray) (W : World) : Prop where
  bs : B ≤ s
  bg : B ≤ g
  ls : s < W.heap.size
  lg : g < W.heap.size
  box : ∃ cap, W.cell? ⟨s, 0, none⟩ = some (.slice (some ⟨g, 0, none⟩) l.length cap)
  cells : ∀ j, j < l.length → W.cell? ⟨g, j, none⟩ = some (.string (l.getD j ⟨#[]⟩))
/-- The block g is kept. -/
def KeepB (g : Nat) (A B : World) : Prop := ∀ o, A.heap[g]? = some o → B.heap[g]? = some o
theorem KeepB.trans {g : Nat} {A B C : World} (h : KeepB g A B) (k : KeepB g B C) : KeepB g A C := fun o ho => k o (h o ho)
theorem KeepB.put {g B : Nat} (W : World) (l : Nat) (o : Obj) (hg : g < B) (hl : B ≤ l) : KeepB g W (W.putObj l o) := fun x hx => by
  exact (World.putObj_heap_other (by omega)).trans hx
theorem KeepB.below {g : Nat} {A B : World} {n : Nat} (h : Below n A B) (hg : g < n) : KeepB g A B := fun o ho => (h.block g hg).trans ho
theorem KeepB.new {g : Nat} {A B : World} (h : Below A.heap.size A B) : KeepB g A B := fun o ho => (h.block g (Array.getElem?_eq_some_iff.1 ho).1).trans ho
theorem KeepB.set {g : Nat} (W : World) (x : Nat) (v : Value) (hx : g ≠ x) : KeepB g W (W.setCell ⟨x, 0, none⟩ v) := fun o ho => (Below.heap_setCell _ _ _ _ hx).trans ho
set_option maxRecDepth 100000 in
set_option maxHeartbeats 2000000 in
theorem all_yields {F : Fence} {n : Nat} (h25 : F.fn 38) (hro : F.round = none) (hn : 1 ≤ n) {B s g : Nat} {xs : List ByteArray} {w : World} (h : ItAt B s g xs w) (hlen : xs.length ≤ 2000) :
    RF.Yields F n Try.prog 38 #[.pointer (some ⟨s, 0, none⟩)] (fun _ => False) encS (KeepB g) (secsOf xs) w := by
  intro l J Jx W hW hJ hJx hY h0
  obtain ⟨cap, hb⟩ := h.box
  have hBs := (hW.cell (p := ⟨s, 0, none⟩) h.ls).trans hb
  have hc : ∀ j, j < xs.length → W.cell? ⟨g, j, none⟩ = some (.string (xs.getD j ⟨#[]⟩)) := fun j hj => (hW.cell (p := ⟨g, j, none⟩) h.lg).trans (h.cells j hj)
  clear hb
  refine callsIn_of_wp Try.func38 rfl h25 ?_ hro
  simp only [Try.ntmps38, List.size_toArray, List.length_cons, List.length_nil, Nat.reduceAdd, Nat.reduceSub, Array.replicate_succ, Array.replicate_zero, List.push_toArray, List.append_toArray, List.nil_append, List.cons_append]
  gi_wp2
  gi_loopw [7] (fun i wr => ∃ k : Nat, k ≤ xs.length ∧ i = .int .i64 k ∧ J (upto (sec xs) k) wr ∧ KeepB g W wr) (fun i _ => xs.length - (intOf i).toNat)
  case atStart => exact ⟨0, Nat.zero_le _, rfl, h0, fun _ ho => ho⟩
  case round =>
    obtain ⟨k, hk, rfl, hJs, hnx⟩ := hrel
    by_cases hlt : k < xs.length
    · have hcx : wr.cell? ⟨g, k, none⟩ = some (.string (xs.getD k ⟨#[]⟩)) := by
        have h1 := hc k hlt
        cases ho : W.heap[g]? with
        | none => rw [World.cell?, ho] at h1; cases h1
        | some o =>
          have h2 := hnx o ho
          rw [World.cell?, ho] at h1
          rw [World.cell?, h2]
          exact h1
      have hpre : upto (sec xs) k ++ [sec xs k] <+: secsOf xs := by
        rw [← upto_succ]
        exact upto_pre _ hlt
      obtain ⟨fn, tmps, assign, body, hy, hR⟩ := hY _ (sec xs k) wr hpre hJs
      unfold encS sec at hy
      dsimp only at hy
      have HC := Aside0.mk hc
      clear hc
      generalize xs.getD k ⟨#[]⟩ = x0 at hcx hy
      gi_wp2
      refine hR.mono ?_
      rintro e W3 (⟨rfl, hJ3, hk3⟩ | ⟨rfl, hJx3⟩)
      · gi_wp2
        go_roundw
        case rel => exact ⟨k + 1, by omega, by simp, by rw [upto_succ]; exact hJ3, hnx.trans hk3⟩
        case measure => simp [intOf]; omega
      · gi_wp2
        refine bodyPost_ret (results_none rfl _ _ _) rfl ?_
        exact ⟨⟨_, rfl⟩, .inr ⟨_, hpre, hJx3⟩⟩
    · obtain rfl : k = xs.length := by omega
      gi_wp2
      go_end0
      exact ⟨⟨_, rfl⟩, .inl hJs⟩
set_option maxHeartbeats 1000000 in
/-- slices.All: the slice is boxed; the function value holds the box. -/
theorem sall_call (a : Option Addr) (len cap : Nat) (w : World) :
    Calls Try.prog 34 #[.slice a len cap] w fun e w' => e = .returned (.func (.func 38) #[] #[.pointer (some ⟨w.heap.size, 0, none⟩)]) ∧ w' = w.alloc (.cells #[.slice a len cap] 30) := by
  go_enter Try.func34, Try.ntmps34
  go_wp2
  go_ret
  exact ⟨rfl, rfl⟩
set_option maxRecDepth 100000 in
set_option maxHeartbeats 2000000 in
/-- A disk's walk. -/
theorem all_call {b p g : Nat} {D : DS} {w : World} (h : DiskAt b p g D w) (hD : D.Ok) :
    Calls Try.prog 25 #[.pointer (some ⟨p, 0, none⟩)] w fun e w' => ∃ s g', e = .returned (.func (.func 38) #[] #[.pointer (some ⟨s, 0, none⟩)]) ∧ ItAt w.heap.size s g' D.secs w' ∧ Below w.heap.size w w' := by
  obtain ⟨cap, c0, hc1, hc2, c1, c2, c3, c4, f1, f2⟩ := h.open
  have hm := hD.most
  have h1 := hD.one
  have CL := Aside0.mk (Try.slices_Clone_string g 0 D.secs.length cap D.secs w (Nat.le_refl _) (by omega) (fun j hj => by rw [Nat.zero_add]; exact h.cell hj))
  rw [List.take_length] at CL
  go_enter Try.func25, Try.ntmps25
  go_wp2_with (first
    | (go_at_call 32; refine CL.out.mono ?_; rintro e w1 ⟨v', rfl, ho, _, hb⟩; rcases ho.2 with ⟨_, h0⟩ | ⟨g2, cap2, cur2, rfl, hbg, hg2, _, _, _, _⟩; (exact absurd h0 (by omega)); have HO := Aside0.mk ho; have HB := Aside0.mk hb; have HG := Aside0.mk hbg; clear ho hb hbg)
    | (go_at_call 34; refine (sall_call _ _ _ _).mono ?_; rintro e w2 ⟨rfl, rfl⟩))
  go_ret
  have ho := HO.out
  have hb := HB.out
  obtain ⟨l1, l2⟩ := ho.lt g2 rfl
  refine ⟨w1.heap.size, g2, rfl, ⟨hb.size, HG.out, by simp, by simp; omega, ⟨cap2, ?_⟩, fun j hj => ?_⟩, hb.alloc hb.size _⟩
  · rw [Lib.cell_of_heap (World.alloc_heap_new w1 _)]; rfl
  · have := ho.cells (g := g2) rfl j (.string (D.secs.getD j ⟨#[]⟩)) (by rw [List.getElem?_map, List.getD_eq_getElem?_getD, List.getElem?_eq_getElem hj]; rfl)
    have e : (⟨g2, 0, none⟩ : Addr).add j = ⟨g2, j, none⟩ := by unfold Addr.add; split <;> simp_all
    rw [e] at this
    exact (((Below.refl w1.heap.size w1).alloc (Nat.le_refl _) _).cell (p := ⟨g2, j, none⟩) l2).trans this
end Go.Proofs.Ytpnnnhdhmdildaa.Given
