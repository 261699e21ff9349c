/- A journal's walk: slices.Values' iterator. -/
import Derived.Test.YtpnnnhdhmdildaaIt
set_option linter.unusedVariables false
set_option linter.unusedSimpArgs false
namespace Go.Proofs.Ytpnnnhdhmdildaa.Given
open Go.RowKit Go.Proofs.YtpnnnhdhmdildaaW.PrintWords Go.Proofs.Ytpnnnhdhmdildaa.RF
attribute [local go_sem] Oper.semAt_some
set_option maxRecDepth 100000 in
set_option maxHeartbeats 2000000 in
theorem val_yields {F : Fence} {n : Nat} (h37 : F.fn 37) (hro : F.round = none) (hn : 1 ≤ n) {B s g : Nat} {xs : List ByteArray} {w : World} (h : ItAt B s g xs w) (hlen : xs.length ≤ 2000) :
    RF.Yields F n Try.prog 37 #[.pointer (some ⟨s, 0, none⟩)] (fun _ => False) (fun x : ByteArray => #[Value.string x]) (KeepB g) (upto (fun j => xs.getD j ⟨#[]⟩) xs.length) w := by
  intro l J Jx W hW hJ hJx hY h0
  obtain ⟨cap, hb⟩ := h.box
  have hBs := (hW.cell (p := ⟨s, 0, none⟩) h.ls).trans hb
  have hc : ∀ j, j < xs.length → W.cell? ⟨g, j, none⟩ = some (.string (xs.getD j ⟨#[]⟩)) := fun j hj => (hW.cell (p := ⟨g, j, none⟩) h.lg).trans (h.cells j hj)
  clear hb
  refine callsIn_of_wp Try.func37 rfl h37 ?_ hro
  simp only [Try.ntmps37, List.size_toArray, List.length_cons, List.length_nil, Nat.reduceAdd, Nat.reduceSub, Array.replicate_succ, Array.replicate_zero, List.push_toArray, List.append_toArray, List.nil_append, List.cons_append]
  gi_wp2
  gi_loopw [7] (fun i wr => ∃ k : Nat, k ≤ xs.length ∧ i = .int .i64 k ∧ J (upto (fun j => xs.getD j ⟨#[]⟩) k) wr ∧ KeepB g W wr) (fun i _ => xs.length - (intOf i).toNat)
  case atStart => exact ⟨0, Nat.zero_le _, rfl, h0, fun _ ho => ho⟩
  case round =>
    obtain ⟨k, hk, rfl, hJs, hnx⟩ := hrel
    by_cases hlt : k < xs.length
    · have hcx : wr.cell? ⟨g, k, none⟩ = some (.string (xs.getD k ⟨#[]⟩)) := by
        have h1 := hc k hlt
        cases ho : W.heap[g]? with
        | none => rw [World.cell?, ho] at h1; cases h1
        | some o =>
          have h2 := hnx o ho
          rw [World.cell?, ho] at h1
          rw [World.cell?, h2]
          exact h1
      have hpre : upto (fun j => xs.getD j ⟨#[]⟩) k ++ [xs.getD k ⟨#[]⟩] <+: upto (fun j => xs.getD j ⟨#[]⟩) xs.length := by
        rw [← upto_succ]
        exact upto_pre _ hlt
      obtain ⟨fn, tmps, assign, body, hy, hR⟩ := hY _ (xs.getD k ⟨#[]⟩) wr hpre hJs
      have HC := Aside0.mk hc
      clear hc
      generalize xs.getD k ⟨#[]⟩ = x0 at hcx hy
      gi_wp2
      refine hR.mono ?_
      rintro e W3 (⟨rfl, hJ3, hk3⟩ | ⟨rfl, hJx3⟩)
      · gi_wp2
        go_roundw
        case rel => exact ⟨k + 1, by omega, by simp, by rw [upto_succ]; exact hJ3, hnx.trans hk3⟩
        case measure => simp [intOf]; omega
      · gi_wp2
        refine bodyPost_ret (results_none rfl _ _ _) rfl ?_
        exact ⟨⟨_, rfl⟩, .inr ⟨_, hpre, hJx3⟩⟩
    · obtain rfl : k = xs.length := by omega
      gi_wp2
      go_end0
      exact ⟨⟨_, rfl⟩, .inl hJs⟩
set_option maxHeartbeats 1000000 in
/-- slices.Values: the slice is boxed; the function value holds the box. -/
theorem sval_call (a : Option Addr) (len cap : Nat) (w : World) :
    Calls Try.prog 31 #[.slice a len cap] w fun e w' => e = .returned (.func (.func 37) #[] #[.pointer (some ⟨w.heap.size, 0, none⟩)]) ∧ w' = w.alloc (.cells #[.slice a len cap] 30) := by
  go_enter Try.func31, Try.ntmps31
  go_wp2
  go_ret
  exact ⟨rfl, rfl⟩
end Go.Proofs.Ytpnnnhdhmdildaa.Given
