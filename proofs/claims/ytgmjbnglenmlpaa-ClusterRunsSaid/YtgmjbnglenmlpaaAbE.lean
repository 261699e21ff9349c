import Derived.Test.YtgmjbnglenmlpaaAbD
import Derived.Test.YtgmjbnglenmlpaaBld
import Derived.Lib.SmallJoins
import Derived.Test.YtgmjbnglenmlpaaHsB
import Derived.Test.YtgmjbnglenmlpaaCut
import Derived.Test.YtgmjbnglenmlpaaWords
section
/- The abstract machine's strings.Builder over this seat's dump. -/
set_option linter.unusedVariables false
set_option linter.unusedSimpArgs false
namespace Go.Proofs.Ytgmjbnglenmlpaa.Ab
open Go Go.RowKit Go.Proofs.YtgmjbnglenmlpaaW.PrintWords Go.Proofs.Ytgmjbnglenmlpaa.Given
def bytesV (s : List UInt8) : List Value := Lib.strCells ⟨s.toArray⟩
theorem bytesV_length (s : List UInt8) : (bytesV s).length = s.length := by unfold bytesV; rw [Lib.strCells_length]; simp [ByteArray.size]
theorem bytesV_app (s t : List UInt8) : bytesV (s ++ t) = bytesV s ++ bytesV t := by unfold bytesV Lib.strCells; simp
theorem mixed : Try.prog.follows .mixedOrders = true := by kernel_rfl
/-- At block b lies a builder with the buffer v that holds s. -/
def BdV : BdP := fun w b v s => ∃ p, (p = .pointer none ∨ p = .pointer (some ⟨b, 0, none⟩)) ∧ w.heap[b]? = some (.cells #[p, v] 72 (0, 0)) ∧ w.ownsRow 0 5 1 v s.length (bytesV s) ∧ v.ownBlock ≠ some b
theorem ownsRow_congr {w w' : World} {base e size n : Nat} {v : Value} {xs : List Value} (h : w.ownsRow base e size v n xs) (hb : ∀ k, v.ownBlock = some k → w'.heap[k]? = w.heap[k]?) : w'.ownsRow base e size v n xs := by
  refine ⟨h.1, h.2.imp (fun h => h) ?_⟩
  rintro ⟨g, cap, cur, h1, h2, h3, h4⟩
  exact ⟨g, cap, cur, h1, h2, (hb g (by rw [h1]; rfl)).trans h3, h4⟩
theorem ownsRow_block {w : World} {base e size n : Nat} {v : Value} {xs : List Value} (h : w.ownsRow base e size v n xs) : ∀ k, v.ownBlock = some k → ∃ cur, w.heap[k]? = some (.cells cur e (0, 0)) := by
  intro k hk
  rcases h.2 with ⟨rfl, _⟩ | ⟨g, cap, cur, rfl, h2, h3, _⟩
  · cases hk
  · cases hk; exact ⟨cur, h3⟩
abbrev par : Par := mkPar Try.prog BdV
theorem par_ok : par.Ok := by
  refine mkPar_ok ?_ ?_
  · rintro w w' b v s h1 h2 ⟨p, a1, a2, a3, a4⟩
    exact ⟨p, a1, h1.trans a2, ownsRow_congr a3 h2, a4⟩
  · rintro w b v s ⟨p, a1, a2, a3, a4⟩ i hi hnc
    rcases hi with rfl | hi
    · exact hnc _ _ _ a2
    · obtain ⟨cur, hc⟩ := ownsRow_block a3 i hi
      exact hnc _ _ _ hc
theorem bty_ok : ∀ i z, Try.prog.info? 72 = some i → i.zero = some z → ∀ w : World, BdV (w.alloc (.cells z.cells 72)) w.heap.size (.slice none 0 0) [] := by
  intro i z hi hz w
  have hf : (Try.prog.info? 72).map (fun i => i.zero.map (·.cells)) = some (some #[.pointer none, .slice none 0 0]) := by kernel_rfl
  rw [hi] at hf
  simp only [Option.map_some, hz] at hf
  injection hf with hf
  injection hf with hf
  rw [hf]
  exact ⟨_, .inl rfl, heap_new w _, World.ownsRow_nil _ 0 5 1, by simp [Value.ownBlock]⟩
theorem append_where {P : Program} (w : World) (t u ty e : TypeId) (i : TypeInfo) (ht : P.underlying t = some (.slice e)) (hu : P.underlying u = some .string) (hi : P.info? e = some i) (hz : i.zero = some (.int .u8 0)) (hsize : i.size = 1) (hby : i.bytes = 1)
    (v : Value) (n : Nat) (xs : List Value) (hown : w.ownsRow 0 e 1 v n xs) (s : ByteArray) (h63 : n + s.size ≤ maxLen) (hbytes : n + s.size ≤ 140737488355328) {v' : Value} {w' : World} (hr : (Builtin.append_ #[t, u] ty #[v, .string s]).run P w = .ok v' w') :
    ∀ k, v'.ownBlock = some k → v.ownBlock = some k ∨ k = w.heap.size := by
  intro k hk
  have hsmall : n + s.size ≤ 9223372036854775807 := by simp only [maxLen] at h63; omega
  have hxl : xs.length = n := by simpa using hown.1
  rcases hown.2 with ⟨rfl, rfl⟩ | ⟨g, cap, cur, rfl, hbg, hg, hnc, hcm, hcs, htake⟩
  · by_cases hm : s.size = 0
    · have hf := Lib.run_firstCells_string (P := P) w 1 s
      rw [hm] at hf
      simp [Builtin.append_, run_underlying ht, run_underlying hu, sizeOf, typeInfo, hi, hsize, Builtin.lenOf, hm, hf] at hr
      obtain ⟨rfl, _⟩ := hr
      cases hk
    · have hr' := run_append_nil_string (P := P) w t u ty e i (.int .u8 0) ht hu hi hz s (by omega) (by omega) (by rw [hby]; omega)
      rw [hr'] at hr
      injection hr with h1 h2
      subst h1
      cases hk
      exact .inr rfl
  · by_cases hroom : n + s.size ≤ cap
    · have hcs' : cur.size = cap := by simpa using hcs
      have hr' := Lib.run_append_room_string (P := P) w t u ty e i ht hu hi hsize g n cap cur hg s hroom (by omega)
      rw [hr'] at hr
      injection hr with h1 h2
      subst h1
      exact .inl hk
    · have holds : ∀ j u, xs[j]? = some u → w.cell? ((⟨g, 0, none⟩ : Addr).add j) = some u := hown.cells (g := g) rfl
      have hr' := Lib.run_append_grow_string (P := P) w t u ty e i (.int .u8 0) ht hu hi hz ⟨g, 0, none⟩ n cap xs (by rw [hsize]; simpa using hxl) holds s (by omega) (by omega) (by rw [hby]; exact growslice_fits (by omega) (by omega))
      rw [hr'] at hr
      injection hr with h1 h2
      subst h1
      cases hk
      exact .inr rfl
theorem wpList_append_where {P : Program} {w : World} {ops : Array Oper} {rest : List Oper} {o : Oper} {a : Act} {Q : Exit → Act → World → Prop} (hgd : o.guard = none) (sl x : Operand) (t u : TypeId)
    (ho : o.op = .call { callee := .builtin .append, args := #[sl, x], argTypes := #[t, u] })
    (e : TypeId) (i : TypeInfo) (ht : P.underlying t = some (.slice e)) (hu : P.underlying u = some .string) (hi : P.info? e = some i) (hz : i.zero = some (.int .u8 0)) (hsize : i.size = 1) (hby : i.bytes = 1)
    (v : Value) (n : Nat) (xs : List Value) (hs : a.eval sl = v) (hown : w.ownsRow 0 e 1 v n xs) (s : ByteArray) (hx : a.eval x = .string s)
    (h63 : n + s.size ≤ maxLen) (hbytes : n + s.size ≤ 140737488355328)
    (h : ∀ v' w', w'.ownsRow 0 e 1 v' (n + s.size) (xs ++ Lib.strCells s) → w.grownBy w' v.ownBlock → (∀ k, v'.ownBlock = some k → v.ownBlock = some k ∨ k = w.heap.size) → wpList P ops Q rest (a.put o.dst v') w') : wpList P ops Q (o :: rest) a w := by
  refine wpList_plain hgd fun K hK => ?_
  obtain ⟨v', w', hr, h2, h3, h4⟩ := Lib.run_append_own_string (P := P) w 0 t u o.type e i ht hu hi hz hsize hby v n xs hown s h63 hbytes (Nat.zero_le _)
  have h5 := append_where w t u o.type e i ht hu hi hz hsize hby v n xs hown s h63 hbytes hr
  unfold Oper.wp execOp
  simp only [ho, resolve, invoke, builtin, Sem.run_bind, Sem.run_pure, Result.andThen_ok, List.map_toArray, List.map_cons, List.map_nil, hs, hx, hr]
  exact hK _ _ (h v' w' h2 h3 h5)
/-- Behind copyCheck. -/
theorem bdv_check (b : Nat) (v : Value) (s : List UInt8) (w : World) (h : BdV w b v s) :
    Calls Try.prog 46 #[.pointer (some ⟨b, 0, none⟩)] w fun e w' => e = .returned (.tuple #[]) ∧ w'.heap[b]? = some (.cells #[.pointer (some ⟨b, 0, none⟩), v] 72 (0, 0)) ∧ w'.ownsRow 0 5 1 v s.length (bytesV s) ∧
      w'.os = w.os ∧ w'.tape = w.tape ∧ w'.output = w.output ∧ w'.heap.size = w.heap.size ∧ ∀ i, i ≠ b → w'.heap[i]? = w.heap[i]? := by
  obtain ⟨p, hp, hb, hown, hne⟩ := h
  rcases hp with rfl | rfl
  · refine (bd_check_fresh b w (by simp [World.cell?, hb]) (by simp [World.shape?, hb]) (by simp [World.frozen?, hb])).mono ?_
    rintro e w' ⟨rfl, rfl⟩
    have hk : ∀ i, i ≠ b → (w.setCell ⟨b, 0, none⟩ (.pointer (some ⟨b, 0, none⟩))).heap[i]? = w.heap[i]? := fun i hi => Below.heap_setCell _ _ _ _ hi
    have h1 := Go.Joins.block_setCell hb (.pointer (some ⟨b, 0, none⟩)) (i := 0)
    refine ⟨rfl, by simpa using h1, ownsRow_congr hown fun k hk' => hk k (fun e => hne (e ▸ hk')), rfl, rfl, rfl, by simp, hk⟩
  · refine (bd_check_used b w (by simp [World.cell?, hb])).mono ?_
    rintro e w' ⟨rfl, rfl⟩
    exact ⟨rfl, hb, hown, rfl, rfl, rfl, rfl, fun _ _ => rfl⟩
set_option maxHeartbeats 2000000 in
set_option maxRecDepth 100000 in
theorem bdv_ws (b : Nat) (v : Value) (s t : List UInt8) (w : World) (h : BdV w b v s) (hlen : s.length + t.length ≤ 140737488355328) :
    Calls Try.prog 37 #[.pointer (some ⟨b, 0, none⟩), .string ⟨t.toArray⟩] w fun e w' => ∃ v' r, e = .returned (.tuple #[.int .i64 t.length, r]) ∧ BdV w' b v' (s ++ t) ∧
      w'.os = w.os ∧ w'.tape = w.tape ∧ w'.output = w.output ∧ w.heap.size ≤ w'.heap.size ∧ (∀ i, i < w.heap.size → i ≠ b → v.ownBlock ≠ some i → w'.heap[i]? = w.heap[i]?) ∧ (∀ i, v'.ownBlock = some i → i < w'.heap.size ∧ (v.ownBlock = some i ∨ w.heap.size ≤ i)) := by
  obtain ⟨i0, hi, hz0, hz1, hz2⟩ := info_parts bd_info5
  have hts : (⟨t.toArray⟩ : ByteArray).size = t.length := by simp [ByteArray.size]
  have hne : v.ownBlock ≠ some b := h.choose_spec.2.2.2
  generalize htb : (⟨t.toArray⟩ : ByteArray) = tb at hts
  go_enter Try.func37, Try.ntmps37
  go_wp2_with (go_at_call 46; refine (bdv_check b v s _ h).mono ?_)
  rintro e w1 ⟨rfl, hbk, hown, ho1, ho2, ho3, hsz1, hk1⟩
  have HK1 := Aside0.mk hk1
  have HO := Aside0.mk (And.intro ho1 (And.intro ho2 ho3))
  clear hk1 ho1 ho2 ho3
  have c0 : w1.cell? ⟨b, 0, none⟩ = some (.pointer (some ⟨b, 0, none⟩)) := by rw [Lib.cell_of_heap hbk]; rfl
  have c1 : w1.cell? ⟨b, 1, none⟩ = some v := by rw [Lib.cell_of_heap hbk]; rfl
  go_wp2_with (at_builtin; refine wpList_append_where rfl _ _ 44 9 rfl 5 i0 Try.underlying44 Try.underlying9 hi hz0 hz1 hz2 _ _ _ rfl hown tb rfl ?c3 ?c4 ?_)
  case c3 => unfold maxLen; omega
  case c4 => omega
  intro v' w2 hown' hgrow hwh
  have hlt : b < w1.heap.size := by
    rcases Nat.lt_or_ge b w1.heap.size with h' | h'
    · exact h'
    · simp [Array.getElem?_eq_none h'] at hbk
  have hb2 : w2.heap[b]? = some (.cells #[.pointer (some ⟨b, 0, none⟩), v] 72 (0, 0)) := by
    rw [hgrow.block b hlt (fun e => hne e.symm)]
    exact hbk
  have d0 : w2.cell? ⟨b, 0, none⟩ = some (.pointer (some ⟨b, 0, none⟩)) := by rw [Lib.cell_of_heap hb2]; rfl
  have d1 : w2.cell? ⟨b, 1, none⟩ = some v := by rw [Lib.cell_of_heap hb2]; rfl
  have f1 : w2.frozen? ⟨b, 1, none⟩ = false := Lib.frozen_of_heap hb2 1
  have HWH := Aside0.mk hwh
  clear hwh
  obtain ⟨ao, n', cap, rfl⟩ : ∃ ao n' cap, v' = .slice ao n' cap := by
    rcases hown'.2 with ⟨hv, _⟩ | ⟨g, cap, cur, hv, _⟩
    · exact ⟨_, _, _, hv⟩
    · exact ⟨_, _, _, hv⟩
  go_wp2
  go_ret2
  have hwh := HWH.out
  have hne' : (Value.slice ao n' cap).ownBlock ≠ some b := by
    intro e
    rcases hwh b e with h1 | h1
    · exact hne h1
    · omega
  have hk2 : ∀ i, i ≠ b → (w2.setCell ⟨b, 1, none⟩ (.slice ao n' cap)).heap[i]? = w2.heap[i]? := fun i hi => Below.heap_setCell _ _ _ _ hi
  refine ⟨_, _, rfl, ⟨_, .inr rfl, by simpa using Go.Joins.block_setCell hb2 (.slice ao n' cap) (i := 1), ?_, hne'⟩, hgrow.os.trans HO.out.1, hgrow.tape.trans HO.out.2.1, hgrow.output.trans HO.out.2.2, by simp; have := hgrow.size; omega, fun i hlti hib hvi => ?_, fun i hi => ⟨?_, ?_⟩⟩
  · rw [List.length_append, bytesV_app]
    have e : bytesV t = Lib.strCells tb := by unfold bytesV; rw [htb]
    rw [e]
    exact ownsRow_congr hown' fun k hk => hk2 k (fun e => hne' (e ▸ hk))
  · refine (hk2 i hib).trans ((hgrow.block i (by omega) fun e => hvi e.symm).trans (HK1.out i hib))
  · obtain ⟨cur, hc⟩ := ownsRow_block hown' i hi
    have := (Array.getElem?_eq_some_iff.1 hc).1
    simpa using this
  · rcases hwh i hi with h1 | h1
    · exact .inl h1
    · exact .inr (by omega)
theorem append_where2 {P : Program} (w : World) (t ty e : TypeId) (i : TypeInfo) (ht : P.underlying t = some (.slice e)) (hi : P.info? e = some i) (hz : i.zero = some (.int .u8 0)) (hsize : i.size = 1) (hby : i.bytes = 1)
    (v : Value) (n : Nat) (xs : List Value) (hown : w.ownsRow 0 e 1 v n xs) (a : Addr) (m c : Nat) (news : List Value) (hl : news.length = m * 1) (hnews : ∀ j u, news[j]? = some u → w.cell? (a.add j) = some u) (h1 : ∀ u ∈ news, u.oneCell' = true) (hm : 0 < m)
    (h63 : n + m < 4611686018427387904) (hbytes : n + m ≤ 140737488355328) {v' : Value} {w' : World} (hr : (Builtin.append_ #[t, t] ty #[v, .slice (some a) m c]).run P w = .ok v' w') :
    ∀ k, v'.ownBlock = some k → v.ownBlock = some k ∨ k = w.heap.size := by
  intro k hk
  have hxl : xs.length = n := by simpa using hown.1
  have hnl : ∀ (k : Nat) (w' : World), w'.heap = w.heap → (Builtin.firstCells 1 m (.slice (some a) m k)).run P w' = .ok news.toArray w' := by
    intro k w' hw
    simp only [Builtin.firstCells]
    have := run_loadCells_list (P := P) w' a news (fun j u hu => by
      have := hnews j u hu
      simp only [World.cell?, hw] at this ⊢
      exact this)
    rw [hl] at this
    exact this
  rcases hown.2 with ⟨rfl, rfl⟩ | ⟨g, cap, cur, rfl, hbg, hg, hnc, hcm, hcs, htake⟩
  · obtain ⟨c2, arr, _, _, _, hrun⟩ := append_more (P := P) (w := w) (ty := ty) ht hi hz hsize (by rfl) (n := 0) (m := m) (c := 0) (c' := c) (A := none) (A' := some a) (os := []) (ns := news) (fun k w' _ => rfl) hnl (by simp) hl (by omega) h63 (by rw [hby]; omega)
    rw [hrun] at hr
    injection hr with h1 h2
    subst h1
    cases hk
    exact .inr rfl
  · by_cases hroom : n + m ≤ cap
    · have hrun := append_room (P := P) (w := w) (ty := ty) (τ := .int .u8) (n := n) (m := m) (c := cap) (c' := c) (A' := some a) (ns := news) ht hi hsize (fun k => hnl k w rfl) hl h1 hroom hg (by show cur.size = cap * 1; simpa using hcs)
      rw [hrun] at hr
      injection hr with h1 h2
      subst h1
      exact .inl hk
    · have hold : ∀ (k : Nat) (w' : World), w'.heap = w.heap → (Builtin.firstCells 1 n (.slice (some ⟨g, 0, none⟩) n k)).run P w' = .ok xs.toArray w' := by
        intro k w' hw
        simp only [Builtin.firstCells]
        have := run_loadCells_list (P := P) w' ⟨g, 0, none⟩ xs (fun j u hu => by
          have := hown.cells (g := g) rfl j u hu
          simp only [World.cell?, hw] at this ⊢
          exact this)
        rw [hxl] at this
        simpa using this
      obtain ⟨c2, arr, _, _, _, hrun⟩ := append_more (P := P) (w := w) (ty := ty) ht hi hz hsize (by rfl) (n := n) (m := m) (c := cap) (c' := c) (A := some ⟨g, 0, none⟩) (A' := some a) (os := xs) (ns := news) hold hnl (by omega) hl (by omega) h63 (by rw [hby]; omega)
      rw [hrun] at hr
      injection hr with h1 h2
      subst h1
      cases hk
      exact .inr rfl
theorem wpList_append_where2 {P : Program} {w : World} {ops : Array Oper} {rest : List Oper} {o : Oper} {a : Act} {Q : Exit → Act → World → Prop} (hgd : o.guard = none) (sl x : Operand) (t : TypeId)
    (ho : o.op = .call { callee := .builtin .append, args := #[sl, x], argTypes := #[t, t] })
    (e : TypeId) (i : TypeInfo) (ht : P.underlying t = some (.slice e)) (hi : P.info? e = some i) (hz : i.zero = some (.int .u8 0)) (hsize : i.size = 1) (hby : i.bytes = 1)
    (v : Value) (n : Nat) (xs : List Value) (hs : a.eval sl = v) (hown : w.ownsRow 0 e 1 v n xs) (ad : Addr) (m c : Nat) (news : List Value) (hx : a.eval x = .slice (some ad) m c) (hl : news.length = m * 1) (hnews : ∀ j u, news[j]? = some u → w.cell? (ad.add j) = some u) (h1 : ∀ u ∈ news, u.oneCell' = true)
    (hm : 0 < m) (h63 : n + m < 4611686018427387904) (hbytes : n + m ≤ 140737488355328)
    (h : ∀ v' w', w'.ownsRow 0 e 1 v' (n + m) (xs ++ news) → w.grownBy w' v.ownBlock → (∀ k, v'.ownBlock = some k → v.ownBlock = some k ∨ k = w.heap.size) → wpList P ops Q rest (a.put o.dst v') w') : wpList P ops Q (o :: rest) a w := by
  refine wpList_plain hgd fun K hK => ?_
  obtain ⟨v', w', hr, h2, h3, h4⟩ := run_append_own (P := P) w 0 t o.type e i (.int .u8 0) 1 1 ht hi hz hsize hby rfl (by decide) v n xs hown ad m c news hl hnews h1 (by unfold maxLen; omega) (by omega) (Nat.zero_le _)
  have h5 := append_where2 w t o.type e i ht hi hz hsize hby v n xs hown ad m c news hl hnews h1 hm h63 hbytes hr
  unfold Oper.wp execOp
  simp only [ho, resolve, invoke, builtin, Sem.run_bind, Sem.run_pure, Result.andThen_ok, List.map_toArray, List.map_cons, List.map_nil, hs, hx, hr]
  exact hK _ _ (h v' w' h2 h3 h5)
def Txt (b : Nat) (v : Value) (s : List UInt8) (w : World) (e : Ending) (w' : World) : Prop := e = .returned (.string ⟨s.toArray⟩) ∧ (∃ x y T, w'.heap[b]? = some (.cells #[x, y] T (0, 0)) ∧ x.oneCell' = true ∧ y.oneCell' = true) ∧
  w'.os = w.os ∧ w'.tape = w.tape ∧ w'.output = w.output ∧ w.heap.size ≤ w'.heap.size ∧ (∀ i, i < w.heap.size → i ≠ b → v.ownBlock ≠ some i → w'.heap[i]? = w.heap[i]?)
theorem txt_one {b : Nat} {p : Value} (hp : p = .pointer none ∨ p = .pointer (some ⟨b, 0, none⟩)) : p.oneCell' = true := by rcases hp with rfl | rfl <;> rfl
theorem us_none (W : World) (q : Option Addr) : (Builtin.unsafeString_ #[83, 3] 9 #[.pointer q, .int .i64 0]).run Try.prog W = .ok (.string .empty) W := Lib.run_unsafeString_none W _ _ _ q
set_option maxHeartbeats 2000000 in
set_option maxRecDepth 100000 in
theorem bdv_text_nil (b : Nat) (p : Value) (w : World) (hp : p = .pointer none ∨ p = .pointer (some ⟨b, 0, none⟩)) (hbk : w.heap[b]? = some (.cells #[p, .slice none 0 0] 72 (0, 0))) :
    Calls Try.prog 39 #[.pointer (some ⟨b, 0, none⟩)] w (Txt b (.slice none 0 0) [] w) := by
  have hUS := us_none
  have c1 : w.drew.cell? ⟨b, 1, none⟩ = some (.slice none 0 0) := by
    have : w.drew.heap[b]? = some (.cells #[p, .slice none 0 0] 72 (0, 0)) := hbk
    rw [Lib.cell_of_heap this]; rfl
  have hSD : (Builtin.unsafeSliceData_ #[44] 83 #[.slice none 0 0]).run Try.prog w.drew = .ok (.pointer none) w.drew := rfl
  have fin : Txt b (.slice none 0 0) [] w (.returned (.string ⟨#[]⟩)) w.drew := ⟨rfl, ⟨_, _, _, hbk, txt_one hp, rfl⟩, rfl, rfl, rfl, Nat.le_refl _, fun _ _ _ _ => rfl⟩
  have mixed := mixed
  go_enter Try.func39, Try.ntmps39
  go_wp2
  go_region_o
  all_goals (go_wp2; go_ret; exact fin)
set_option maxHeartbeats 2000000 in
set_option maxRecDepth 100000 in
theorem bdv_text_noroom (b g : Nat) (p : Value) (cur : Array Value) (w : World) (hp : p = .pointer none ∨ p = .pointer (some ⟨b, 0, none⟩)) (hbk : w.heap[b]? = some (.cells #[p, .slice (some ⟨g, 0, none⟩) 0 0] 72 (0, 0))) (hg : w.heap[g]? = some (.cells cur 5 (0, 0))) :
    Calls Try.prog 39 #[.pointer (some ⟨b, 0, none⟩)] w (Txt b (.slice (some ⟨g, 0, none⟩) 0 0) [] w) := by
  have hUS := us_none
  have hlt : b < w.heap.size := (Array.getElem?_eq_some_iff.1 hbk).1
  have c1 : w.drew.cell? ⟨b, 1, none⟩ = some (.slice (some ⟨g, 0, none⟩) 0 0) := by
    have : w.drew.heap[b]? = some (.cells #[p, .slice (some ⟨g, 0, none⟩) 0 0] 72 (0, 0)) := hbk
    rw [Lib.cell_of_heap this]; rfl
  have hSD : (Builtin.unsafeSliceData_ #[44] 83 #[.slice (some ⟨g, 0, none⟩) 0 0]).run Try.prog w.drew = .ok (.pointer (some ⟨w.drew.heap.size, 0, none⟩)) (w.drew.alloc (.view ⟨g, 0, none⟩ 5)) :=
    Lib.run_unsafeSliceData_zero w.drew _ _ 5 (by kernel_rfl) ⟨g, 0, none⟩ 0 (5, cur.size) (by have hg' : w.drew.heap[g]? = some (.cells cur 5 (0, 0)) := hg; simp [World.shape?, hg'])
  have hb2 : (w.drew.alloc (.view ⟨g, 0, none⟩ 5)).heap[b]? = some (.cells #[p, .slice (some ⟨g, 0, none⟩) 0 0] 72 (0, 0)) := (Lib.alloc_old w.drew _ b hlt).trans hbk
  have c2 : (w.drew.alloc (.view ⟨g, 0, none⟩ 5)).cell? ⟨b, 1, none⟩ = some (.slice (some ⟨g, 0, none⟩) 0 0) := by rw [Lib.cell_of_heap hb2]; rfl
  have c3 : (w.alloc (.view ⟨g, 0, none⟩ 5)).drew.cell? ⟨b, 1, none⟩ = some (.slice (some ⟨g, 0, none⟩) 0 0) := c2
  have c0 : w.cell? ⟨b, 1, none⟩ = some (.slice (some ⟨g, 0, none⟩) 0 0) := c1
  have fin : Txt b (.slice (some ⟨g, 0, none⟩) 0 0) [] w (.returned (.string ⟨#[]⟩)) (w.drew.alloc (.view ⟨g, 0, none⟩ 5)) := ⟨rfl, ⟨_, _, _, hb2, txt_one hp, rfl⟩, rfl, rfl, rfl, by simp, fun i hi _ _ => Lib.alloc_old w.drew _ i hi⟩
  have mixed := mixed
  go_enter Try.func39, Try.ntmps39
  go_wp2
  go_region_o
  all_goals (go_wp2; go_ret; exact fin)
set_option maxHeartbeats 2000000 in
set_option maxRecDepth 100000 in
theorem bdv_text_room (b g cap : Nat) (p : Value) (w : World) (hp : p = .pointer none ∨ p = .pointer (some ⟨b, 0, none⟩)) (hc0 : cap ≠ 0) (hbk : w.heap[b]? = some (.cells #[p, .slice (some ⟨g, 0, none⟩) 0 cap] 72 (0, 0))) :
    Calls Try.prog 39 #[.pointer (some ⟨b, 0, none⟩)] w (Txt b (.slice (some ⟨g, 0, none⟩) 0 cap) [] w) := by
  have hUS := us_none
  have c1 : w.drew.cell? ⟨b, 1, none⟩ = some (.slice (some ⟨g, 0, none⟩) 0 cap) := by
    have : w.drew.heap[b]? = some (.cells #[p, .slice (some ⟨g, 0, none⟩) 0 cap] 72 (0, 0)) := hbk
    rw [Lib.cell_of_heap this]; rfl
  have hSD : (Builtin.unsafeSliceData_ #[44] 83 #[.slice (some ⟨g, 0, none⟩) 0 cap]).run Try.prog w.drew = .ok (.pointer (some ⟨g, 0, none⟩)) w.drew := Lib.run_unsafeSliceData_row _ _ _ _ _ _ hc0
  have fin : Txt b (.slice (some ⟨g, 0, none⟩) 0 cap) [] w (.returned (.string ⟨#[]⟩)) w.drew := ⟨rfl, ⟨_, _, _, hbk, txt_one hp, rfl⟩, rfl, rfl, rfl, Nat.le_refl _, fun _ _ _ _ => rfl⟩
  clear hc0
  have mixed := mixed
  go_enter Try.func39, Try.ntmps39
  go_wp2
  go_region_o
  all_goals (go_wp2; go_ret; exact fin)
set_option maxHeartbeats 2000000 in
set_option maxRecDepth 100000 in
theorem bdv_text_full (b g cap : Nat) (p : Value) (cur : Array Value) (l : List UInt8) (w : World) (hp : p = .pointer none ∨ p = .pointer (some ⟨b, 0, none⟩)) (h0 : l ≠ []) (hne : g ≠ b)
    (hbk : w.heap[b]? = some (.cells #[p, .slice (some ⟨g, 0, none⟩) l.length cap] 72 (0, 0))) (hown : w.ownsRow 0 5 1 (.slice (some ⟨g, 0, none⟩) l.length cap) l.length (bytesV l))
    (hg : w.heap[g]? = some (.cells cur 5 (0, 0))) (hnc : l.length ≤ cap) (hcm : cap ≤ maxLen) (hcs : cur.size = cap * 1) :
    Calls Try.prog 39 #[.pointer (some ⟨b, 0, none⟩)] w (Txt b (.slice (some ⟨g, 0, none⟩) l.length cap) l w) := by
  have hl0 : l.length ≠ 0 := by simpa using h0
  have c1 : w.drew.cell? ⟨b, 1, none⟩ = some (.slice (some ⟨g, 0, none⟩) l.length cap) := by
    have : w.drew.heap[b]? = some (.cells #[p, .slice (some ⟨g, 0, none⟩) l.length cap] 72 (0, 0)) := hbk
    rw [Lib.cell_of_heap this]; rfl
  have hSD : (Builtin.unsafeSliceData_ #[44] 83 #[.slice (some ⟨g, 0, none⟩) l.length cap]).run Try.prog w.drew = .ok (.pointer (some ⟨g, 0, none⟩)) w.drew :=
    Lib.run_unsafeSliceData_row _ _ _ _ _ _ (by omega)
  have hUS : (Builtin.unsafeString_ #[83, 3] 9 #[.pointer (some ⟨g, 0, none⟩), .int .i64 l.length]).run Try.prog w.drew = .ok (.string ⟨l.toArray⟩) (w.drew.freeze ⟨g, 0, none⟩ l.length) := by
    refine Lib.run_unsafeString_row w.drew 83 3 9 5 (by kernel_rfl) (by kernel_rfl) g cur.size (by have hg' : w.drew.heap[g]? = some (.cells cur 5 (0, 0)) := hg; simp [World.shape?, hg']) l h0 (by omega) (by unfold maxLen at hcm; omega) ?_
    intro j x hx
    exact hown.cells (g := g) rfl j (.int .u8 x.toNat) (by simp [bytesV, Lib.strCells, hx])
  have hfr : (w.drew.freeze ⟨g, 0, none⟩ l.length).os = w.os ∧ (w.drew.freeze ⟨g, 0, none⟩ l.length).tape = w.tape ∧ (w.drew.freeze ⟨g, 0, none⟩ l.length).output = w.output ∧ w.heap.size ≤ (w.drew.freeze ⟨g, 0, none⟩ l.length).heap.size ∧
      ∀ i, i ≠ g → (w.drew.freeze ⟨g, 0, none⟩ l.length).heap[i]? = w.heap[i]? := by
    unfold World.freeze
    rw [if_neg hl0]
    refine ⟨rfl, rfl, rfl, ?_, fun i hi => ?_⟩
    · dsimp only
      rw [Array.size_modify]
      exact Nat.le_refl _
    · dsimp only
      rw [Array.getElem?_modify, if_neg (Ne.symm hi)]
      rfl
  obtain ⟨f1, f2, f3, f4, hfz⟩ := hfr
  have fin : Txt b (.slice (some ⟨g, 0, none⟩) l.length cap) l w (.returned (.string ⟨l.toArray⟩)) (w.drew.freeze ⟨g, 0, none⟩ l.length) :=
    ⟨rfl, ⟨_, _, _, (hfz b (Ne.symm hne)).trans hbk, txt_one hp, rfl⟩, f1, f2, f3, f4, fun i _ _ hv => hfz i (fun e => hv (by subst e; rfl))⟩
  clear f1 f2 f3 f4
  clear hfz
  have mixed := mixed
  go_enter Try.func39, Try.ntmps39
  go_wp2
  go_region_o
  all_goals (go_wp2; go_ret; exact fin)
theorem bdv_text (b : Nat) (v : Value) (s : List UInt8) (w : World) (h : BdV w b v s) : Calls Try.prog 39 #[.pointer (some ⟨b, 0, none⟩)] w (Txt b v s w) := by
  obtain ⟨p, hp, hb, hown, hne⟩ := h
  rcases hown.2 with ⟨rfl, h0⟩ | ⟨g, cap, cur, rfl, _, hg, hnc, hcm, hcs, _⟩
  · have : s = [] := List.eq_nil_of_length_eq_zero h0
    subst this
    exact bdv_text_nil b p w hp hb
  · have hgb : g ≠ b := fun e => hne (by subst e; rfl)
    by_cases hs : s = []
    · subst hs
      by_cases hc : cap = 0
      · subst hc; exact bdv_text_noroom b g p cur w hp hb hg
      · exact bdv_text_room b g cap p w hp hc hb
    · exact bdv_text_full b g cap p cur s w hp hs hgb hb hown hg hnc hcm hcs
def bids : BldIds := ⟨37, 37, 39⟩
abbrev bty : Nat := 72
theorem bld_ok : BldOk Try.prog par bids := by
  refine ⟨fun f hf vs w => ?_, bdv_ws, (by first | exact fun _ => bdv_wb | exact fun h => absurd rfl h), fun b v s w h => bdv_text b v s w h⟩
  rcases hf with rfl | rfl | rfl
  · exact enters_of Try.func37 (by kernel_rfl) rfl vs w
  · exact enters_of Try.func37 (by kernel_rfl) rfl vs w
  · exact enters_of Try.func39 (by kernel_rfl) rfl vs w
end Go.Proofs.Ytgmjbnglenmlpaa.Ab
end
section
/- Functions of Go's library and of the program whose contracts were shown otherwise, as the abstract machine takes them. -/
set_option linter.unusedVariables false
set_option linter.unusedSimpArgs false
namespace Go.Proofs.Ytgmjbnglenmlpaa.Ab
open Go Go.RowKit Go.Proofs.YtgmjbnglenmlpaaW.PrintWords Go.Proofs.Ytgmjbnglenmlpaa.Given
theorem vrel_str {hw : Nat → Nat} {w : World} {x : List UInt8} {v : Value} (h : VRel hw w .str x v) : v = .string ⟨x.toArray⟩ := by
  obtain ⟨cs, hc, rfl⟩ := h
  rw [CRel] at hc
  subst hc
  rfl
theorem vrel_int {hw : Nat → Nat} {w : World} {k : IntKind} {x : Int} {v : Value} (h : VRel hw w (.int k) x v) : v = .int k x := by
  obtain ⟨cs, hc, rfl⟩ := h
  rw [CRel] at hc
  subst hc
  rfl
theorem vrel_bool {hw : Nat → Nat} {w : World} {x : Bool} {v : Value} (h : VRel hw w .bool x v) : v = .bool x := by
  obtain ⟨cs, hc, rfl⟩ := h
  rw [CRel] at hc
  subst hc
  rfl
theorem str_vrel (hw : Nat → Nat) (w : World) (x : List UInt8) : VRel hw w .str x (.string ⟨x.toArray⟩) := ⟨_, rfl, rfl⟩
theorem int_vrel (hw : Nat → Nat) (w : World) (k : IntKind) (x : Int) : VRel hw w (.int k) x (.int k x) := ⟨_, rfl, rfl⟩
theorem bool_vrel (hw : Nat → Nat) (w : World) (x : Bool) : VRel hw w .bool x (.bool x) := ⟨_, rfl, rfl⟩
theorem vs_one {hw : Nat → Nat} {w : World} {a : DTy} {x : (prodT [a]).den} {vs : Array Value} (h : VsRel hw w [a] x vs.toList) : ∃ u, vs = #[u] ∧ VRel hw w a x.1 u := by
  obtain ⟨u, r, e, h1, h2⟩ := h
  have h2 : r = [] := h2
  subst h2
  exact ⟨u, by apply Array.toList_inj.1; rw [e], h1⟩
theorem vs_two {hw : Nat → Nat} {w : World} {a b : DTy} {x : (prodT [a, b]).den} {vs : Array Value} (h : VsRel hw w [a, b] x vs.toList) : ∃ u v, vs = #[u, v] ∧ VRel hw w a x.1 u ∧ VRel hw w b x.2.1 v := by
  obtain ⟨u, r, e, h1, v, r2, e2, h3, h4⟩ := h
  have h4 : r2 = [] := h4
  subst h4
  subst e2
  exact ⟨u, v, by apply Array.toList_inj.1; rw [e], h1, h3⟩
/-- A contract whose result is no slice. -/
theorem pure_of {P : Program} {f : Nat} {ps rs : List DTy} {F : (prodT ps).den → Option (resT rs).den}
    (h : ∀ x r, F x = some r → ∀ (hw : Nat → Nat) (w : World) (vs : Array Value), VsRel hw w ps x vs.toList → Calls P f vs w (fun e w' => ∃ v, e = .returned v ∧ Below w.heap.size w w' ∧ ∀ hw w', ResRel hw w' rs r v)) : PureC P f ⟨ps, rs, F⟩ := by
  intro x r hx hw w vs hz hv
  refine (h x r hx hw w vs hv).mono ?_
  rintro e w' ⟨v, rfl, hb, hr⟩
  exact ⟨v, hw, rfl, hb, fun _ _ => rfl, fun b hb' => hz b (noCells_below hb hb'), hr _ _⟩
theorem below_drawn {w w' : World} (h : Drawn0 w w') : Below w.heap.size w w' := by
  obtain ⟨n, rfl⟩ := h
  exact ⟨rfl, rfl, rfl, Nat.le_refl _, fun _ _ => rfl⟩
theorem ba_list (b : ByteArray) : (⟨b.data.toList.toArray⟩ : ByteArray) = b := by cases b; simp
def strings_Contains.F : List UInt8 → List UInt8 → Option Bool
  | s, [c] => some (decide (0 ≤ Lib.indexByte s c))
  | _, _ => none
noncomputable def strings_Contains.f (_ : Nat) (x : (prodT [.str, .str]).den) : Option (resT [.bool]).den := strings_Contains.F x.1 x.2.1
theorem strings_Contains.ok (K : Nat) : PureC Try.prog 45 ⟨[.str, .str], [.bool], strings_Contains.f K⟩ := by
  refine pure_of fun x r hx hw w vs hv => ?_
  obtain ⟨u, v, rfl, h1, h2⟩ := vs_two hv
  rw [vrel_str h1, vrel_str h2]
  obtain ⟨s, t, _⟩ := x
  match t, hx with
  | [c], hx =>
    cases hx
    refine (Try.strings_Contains_one ⟨s.toArray⟩ c w).mono ?_
    rintro e w' ⟨rfl, rfl⟩
    exact ⟨_, rfl, Below.refl _ _, fun hw w' => bool_vrel hw w' _⟩
def strings_IndexByte.f (_ : Nat) (x : (prodT [.str, .int .u8]).den) : Option (resT [.int .i64]).den := some (Lib.indexByte x.1 (x.2.1 : Int).toNat.toUInt8)
theorem strings_IndexByte.ok (K : Nat) : PureC Try.prog 40 ⟨[.str, .int .u8], [.int .i64], strings_IndexByte.f K⟩ := by
  refine pure_of fun x r hx hw w vs hv => ?_
  obtain ⟨u, v, rfl, h1, h2⟩ := vs_two hv
  rw [vrel_str h1, vrel_int h2]
  cases hx
  refine (Try.strings_IndexByte ⟨x.1.toArray⟩ x.2.1 w).mono ?_
  rintro e w' ⟨rfl, rfl⟩
  exact ⟨_, rfl, Below.refl _ _, fun hw w' => int_vrel hw w' _ _⟩
noncomputable def hash_Sum.f (_ : Nat) (x : (prodT [.str]).den) : Option (resT [.str]).den := if x.1.length ≤ 1000000 then some (sumB ⟨x.1.toArray⟩).data.toList else none
theorem hash_Sum.ok (K : Nat) : PureC Try.prog 42 ⟨[.str], [.str], hash_Sum.f K⟩ := by
  refine pure_of fun x r hx hw w vs hv => ?_
  obtain ⟨u, rfl, h1⟩ := vs_one hv
  rw [vrel_str h1]
  unfold hash_Sum.f at hx
  split at hx
  · rename_i hl
    cases hx
    refine (sum_calls ⟨x.1.toArray⟩ w (by simpa [ByteArray.size] using hl)).mono ?_
    rintro e w' ⟨rfl, hb⟩
    refine ⟨_, rfl, hb, fun hw w' => ?_⟩
    have := str_vrel hw w' (sumB ⟨x.1.toArray⟩).data.toList
    rw [ba_list] at this
    exact this
  · cases hx
noncomputable def ammoniteref1_Sum.f (_ : Nat) (x : (prodT [.str]).den) : Option (resT [.str]).den := if x.1.length ≤ 1000000 then some (sumB ⟨x.1.toArray⟩).data.toList else none
theorem ammoniteref1_Sum.ok (K : Nat) : PureC Try.prog 7 ⟨[.str], [.str], ammoniteref1_Sum.f K⟩ := by
  refine pure_of fun x r hx hw w vs hv => ?_
  obtain ⟨u, rfl, h1⟩ := vs_one hv
  rw [vrel_str h1]
  unfold ammoniteref1_Sum.f at hx
  split at hx
  · rename_i hl
    cases hx
    refine (rsum_calls ⟨x.1.toArray⟩ w (by simpa [ByteArray.size] using hl)).mono ?_
    rintro e w' ⟨rfl, hb⟩
    refine ⟨_, rfl, hb, fun hw w' => ?_⟩
    have := str_vrel hw w' (sumB ⟨x.1.toArray⟩).data.toList
    rw [ba_list] at this
    exact this
  · cases hx
/-- A text cut at its first byte c. -/
def cutB (s : List UInt8) (c : UInt8) : List UInt8 × List UInt8 × Bool × Unit :=
  if Lib.indexByte s c < 0 then (s, [], false, ()) else (s.take (Lib.indexByte s c).toNat, s.drop ((Lib.indexByte s c).toNat + 1), true, ())
def strings_Cut.F : List UInt8 → List UInt8 → Option (List UInt8 × List UInt8 × Bool × Unit)
  | s, [c] => if s.length ≤ 140737488351232 then some (cutB s c) else none
  | _, _ => none
noncomputable def strings_Cut.f (_ : Nat) (x : (prodT [.str, .str]).den) : Option (resT [.str, .str, .bool]).den := strings_Cut.F x.1 x.2.1
theorem extract_list (s : List UInt8) (i j : Nat) : (⟨s.toArray⟩ : ByteArray).extract i j = ⟨((s.take j).drop i).toArray⟩ := by
  apply ByteArray.ext
  rw [ByteArray.data_extract, List.extract_toArray, List.extract_eq_take_drop, List.drop_take]
theorem strings_Cut.ok (K : Nat) : PureC Try.prog 33 ⟨[.str, .str], [.str, .str, .bool], strings_Cut.f K⟩ := by
  refine pure_of fun x r hx hw w vs hv => ?_
  obtain ⟨u, v, rfl, h1, h2⟩ := vs_two hv
  rw [vrel_str h1, vrel_str h2]
  obtain ⟨s, t, _⟩ := x
  match t, hx with
  | [c], hx =>
    have hx : (if s.length ≤ 140737488351232 then some (cutB s c) else none) = some r := hx
    split at hx
    · rename_i hl
      cases hx
      refine (cut_one ⟨s.toArray⟩ c w (by simpa [ByteArray.size] using hl)).mono ?_
      rintro e w' ⟨rfl, hd⟩
      refine ⟨_, rfl, below_drawn hd, fun hw w' => ?_⟩
      refine ⟨_, rfl, ?_⟩
      have key : ∀ (a b : List UInt8) (d : Bool), VsRel hw w' [.str, .str, .bool] (a, b, d, ()) [.string ⟨a.toArray⟩, .string ⟨b.toArray⟩, .bool d] := fun a b d => ⟨_, _, rfl, str_vrel hw w' a, _, _, rfl, str_vrel hw w' b, _, _, rfl, bool_vrel hw w' d, rfl⟩
      unfold cutB cutI
      dsimp only
      split
      · exact key s [] false
      · have := key (s.take (Lib.indexByte s c).toNat) (s.drop ((Lib.indexByte s c).toNat + 1)) true
        rw [extract_list, extract_list]
        have e : (⟨s.toArray⟩ : ByteArray).size = s.length := by simp [ByteArray.size]
        rw [e, List.take_length]
        simpa using this
    · cases hx
/-- strings.Join. -/
def strings_Join.F (l : List (List UInt8)) (sep : List UInt8) : Option (List UInt8) := if l.length ≤ 140737488355328 ∧ (Lib.join l sep).length ≤ 140737488355328 then some (Lib.join l sep) else none
noncomputable def strings_Join.f (_ : Nat) (x : (prodT [.slice .str, .str]).den) : Option (resT [.str]).den := strings_Join.F x.1 x.2.1
theorem strings_Join.ok (K : Nat) : PureC Try.prog 38 ⟨[.slice .str, .str], [.str], strings_Join.f K⟩ := by
  intro x r hx hw w vs hz hv
  obtain ⟨u, v, rfl, h1, h2⟩ := vs_two hv
  rw [vrel_str h2]
  obtain ⟨l, sep, _⟩ := x
  have hx : (if l.length ≤ 140737488355328 ∧ (Lib.join l sep).length ≤ 140737488355328 then some (Lib.join l sep) else none) = some r := hx
  split at hx
  · rename_i hl
    cases hx
    obtain ⟨cs, hc, rfl⟩ := h1
    rw [CRel] at hc
    obtain ⟨A, c, rfl, hlc, hel⟩ := hc
    have fin : Calls Try.prog 38 #[.slice A l.length c, .string ⟨sep.toArray⟩] w fun e w' => e = .returned (.string ⟨(Lib.join l sep).toArray⟩) ∧ Below w.heap.size w w' := by
      cases hl0 : l with
      | nil =>
        refine (Try.strings_Join_none A c ⟨sep.toArray⟩ w).mono ?_
        rintro e w' ⟨rfl, rfl⟩
        exact ⟨rfl, Below.refl _ _⟩
      | cons y l' =>
        rw [← hl0]
        obtain ⟨b, o, es, hA, _, _, hp⟩ := hel 0 (by rw [hl0]; simp)
        subst hA
        have hcell : ∀ (j : Nat) (x : ByteArray), (l.map fun s => (⟨s.toArray⟩ : ByteArray))[j]? = some x → w.cell? ⟨b, o + j, none⟩ = some (.string x) := by
          intro j x hj
          rw [List.getElem?_map] at hj
          obtain ⟨s, hs, rfl⟩ := Option.map_eq_some_iff.1 hj
          have hjl : j < l.length := (List.getElem?_eq_some_iff.1 hs).1
          obtain ⟨b', o', es', hA', hr', hh', _⟩ := hel j hjl
          cases hA'
          rw [CRel] at hr'
          subst hr'
          have := hh' 0 (by simp)
          simp only [DTy.size, Nat.mul_one, Nat.add_zero] at this
          rw [this]
          rw [List.getD_eq_getElem?_getD, hs]
          rfl
        have hblt : b < w.heap.size := by
          rcases Nat.lt_or_ge b w.heap.size with h | h
          · exact h
          · have := hz b (.size h)
            rw [this] at hp
            simp [DTy.size] at hp
        have hmap : (l.map fun s => (⟨s.toArray⟩ : ByteArray)).map (·.data.toList) = l := by simp [List.map_map, Function.comp_def]
        have := Try.strings_Join b o c (l.map fun s => (⟨s.toArray⟩ : ByteArray)) ⟨sep.toArray⟩ w hcell hblt (by simpa using hl.1) (by simpa using hlc) (by rw [hmap]; exact hl.2)
        rw [hmap, List.length_map] at this
        exact this
    refine fin.mono ?_
    rintro e w' ⟨rfl, hb⟩
    exact ⟨_, hw, rfl, hb, fun _ _ => rfl, fun b hb' => hz b (noCells_below hb hb'), str_vrel hw w' _⟩
  · cases hx
/-! ### escape.Words -/
theorem yields_kp {F : Fence} {n : Nat} {P : Program} {β : Type} {g : Nat} {lb : Array Value} {own : Nat → Prop} {encs : β → Array Value} {Kp Kp' : World → World → Prop} {xs : List β} {w : World} (hk : ∀ A B, Kp' A B → Kp A B) (h : RF.Yields F n P g lb own encs Kp xs w) : RF.Yields F n P g lb own encs Kp' xs w := by
  intro l J Jx W hW hJ hJx hY h0
  refine h l J Jx W hW hJ hJx (fun pre x W1 hp hj => ?_) h0
  obtain ⟨fn, tmps, assign, body, h1, h2⟩ := hY pre x W1 hp hj
  refine ⟨fn, tmps, assign, body, h1, h2.mono ?_⟩
  rintro e W' (⟨a, b, c⟩ | h)
  · exact .inl ⟨a, b, hk _ _ c⟩
  · exact .inr h
noncomputable def escape_Words.L (x : (prodT [.str]).den) : Option (List (prodT [.str]).den) := if x.1.length ≤ 140737488351232 then some ((wordsL ⟨x.1.toArray⟩).map fun s => (s.data.toList, ())) else none
theorem escape_Words.itc : ItC Try.prog 34 ⟨[.str], .prod .str .unit, escape_Words.L⟩ := by
  intro x l hl hw w vs hz hv
  obtain ⟨u, rfl, h1⟩ := vs_one hv
  rw [vrel_str h1]
  have hl : (if x.1.length ≤ 140737488351232 then some ((wordsL ⟨x.1.toArray⟩).map fun s => (s.data.toList, ())) else none) = some l := hl
  split at hl
  · rename_i hlen
    cases hl
    refine (words_make ⟨x.1.toArray⟩ w).mono ?_
    rintro e w' ⟨rfl, rfl⟩
    have hb := heap_new w (.cells #[.string ⟨x.1.toArray⟩] 9)
    refine ⟨_, fun r => r = w.heap.size, rfl, (Below.refl _ w).alloc (Nat.le_refl _) _, fun b hb' => ?_, _, _, ByteArray, (fun s => #[.string s]), wordsL ⟨x.1.toArray⟩, rfl, fun args w => enters_of Try.func44 (by kernel_rfl) rfl args w, fun _ => rfl, ?_, fun n W hn h1 h2 => ?_⟩
    · subst hb'
      exact ⟨Nat.le_refl _, fun hnc => hnc _ _ _ hb⟩
    · generalize wordsL ⟨x.1.toArray⟩ = ws
      induction ws with
      | nil => trivial
      | cons s ws ih =>
        refine ⟨⟨?_, trivial⟩, ih⟩
        have := mk_str (g := gOf hw) (O := fun _ => .none) (w := w.alloc (.cells #[.string ⟨x.1.toArray⟩] 9)) s.data.toList
        rw [ba_list] at this
        exact this
    · refine yields_kp ?_ (words_yield n hn w.heap.size ⟨x.1.toArray⟩ (by simpa [ByteArray.size] using hlen) W ((h1 _ rfl).trans hb))
      intro A B hk o ho
      exact (hk.2 _ rfl).trans ho
  · cases hl
end Go.Proofs.Ytgmjbnglenmlpaa.Ab
end
section
/- card.Of as an iterator, over this seat's dump. -/
set_option linter.unusedVariables false
set_option linter.unusedSimpArgs false
namespace Go.Proofs.Ytgmjbnglenmlpaa.Ab
open Go Go.RowKit Go.Proofs.YtgmjbnglenmlpaaW.PrintWords Go.Proofs.Ytgmjbnglenmlpaa.Given Go.Proofs.Ytgmjbnglenmlpaa.RF
attribute [local go_sem] Oper.semAt_some
theorem of_make (A : Option Addr) (len cp : Nat) (c : Int) (w : World) :
    Calls Try.prog 23 #[.slice A len cp, .int .u8 c] w fun e w' => e = .returned (.func (.func 35) #[] #[.pointer (some ⟨w.heap.size, 0, none⟩), .pointer (some ⟨w.heap.size + 1, 0, none⟩)]) ∧ w' = (w.alloc (.cells #[.slice A len cp] 48)).alloc (.cells #[.int .u8 c] 5) := by
  go_enter Try.func23, Try.ntmps23
  go_wp2
  go_ret
  exact ⟨rfl, rfl⟩
/-- The cards of a letter: where they stand, their arguments. -/
def ofL (c : Int) : Nat → List (Int × Value) → List (Nat × Value)
  | _, [] => []
  | k, (a, v) :: r => if a = c then (k, v) :: ofL c (k + 1) r else ofL c (k + 1) r
def KpOf (b1 b2 : Nat) (A : Option Addr) (L : List (Int × Value)) (X Y : World) : Prop :=
  (∀ o, X.heap[b1]? = some o → Y.heap[b1]? = some o) ∧ (∀ o, X.heap[b2]? = some o → Y.heap[b2]? = some o) ∧ ∀ b o, A = some ⟨b, o, none⟩ → ∀ j, j < L.length * 2 → Y.cell? ⟨b, o + j, none⟩ = X.cell? ⟨b, o + j, none⟩
set_option maxRecDepth 100000 in
set_option maxHeartbeats 4000000 in
theorem of_yield (n : Nat) (hn : 1 ≤ n) (b1 b2 cp : Nat) (b o : Nat) (c : Int) (L : List (Int × Value)) (hne : b1 ≠ b2) (w : World)
    (h1 : w.heap[b1]? = some (.cells #[.slice (some ⟨b, o, none⟩) L.length cp] 48 (0, 0))) (h2 : w.heap[b2]? = some (.cells #[.int .u8 c] 5 (0, 0)))
    (hL : ∀ j a v, L[j]? = some (a, v) → w.cell? ⟨b, o + j * 2, none⟩ = some (.int .u8 a) ∧ w.cell? ⟨b, o + (j * 2 + 1), none⟩ = some v ∧ ∃ x y z, v = .slice x y z) (hlen : L.length < 4611686018427387904) (hbl : b < w.heap.size) :
    RF.Yields Fence.wide n Try.prog 35 #[.pointer (some ⟨b1, 0, none⟩), .pointer (some ⟨b2, 0, none⟩)] (fun r => r = b1 ∨ r = b2) (fun x : Nat × Value => #[Value.int .i64 x.1, x.2]) (KpOf b1 b2 (some ⟨b, o, none⟩) L) (ofL c 0 L) w := by
  intro l J Jx W hW hJ hJx hY h0
  have hb1 : b1 < w.heap.size := (Array.getElem?_eq_some_iff.1 h1).1
  have hb2 : b2 < w.heap.size := (Array.getElem?_eq_some_iff.1 h2).1
  have k1 : W.heap[b1]? = some (.cells #[.slice (some ⟨b, o, none⟩) L.length cp] 48 (0, 0)) := (hW.block b1 hb1).trans h1
  have k2 : W.heap[b2]? = some (.cells #[.int .u8 c] 5 (0, 0)) := (hW.block b2 hb2).trans h2
  have c1 : W.cell? ⟨b1, 0, none⟩ = some (.slice (some ⟨b, o, none⟩) L.length cp) := by simp [World.cell?, k1]
  have hcW : ∀ j, j < L.length * 2 → W.cell? ⟨b, o + j, none⟩ = w.cell? ⟨b, o + j, none⟩ := fun j hj => hW.cell (p := ⟨b, o + j, none⟩) hbl
  refine callsIn_of_wp Try.func35 rfl trivial ?_ rfl
  simp only [Try.ntmps35, List.size_toArray, List.length_cons, List.length_nil, Nat.reduceAdd, Nat.reduceSub, Array.replicate_succ, Array.replicate_zero, List.push_toArray, List.append_toArray, List.nil_append, List.cons_append]
  gi_wp2
  gi_loopw [8] (fun i wr => ∃ (k : Nat) (pre : List (Nat × Value)), k ≤ L.length ∧ i = .int .i64 k ∧ ofL c 0 L = pre ++ ofL c k (L.drop k) ∧ J pre wr ∧ KpOf b1 b2 (some ⟨b, o, none⟩) L W wr) (fun i _ => L.length - (intOf i).toNat)
  case atStart => exact ⟨0, [], Nat.zero_le _, rfl, rfl, h0, fun _ h => h, fun _ h => h, fun _ _ _ _ _ => rfl⟩
  case round =>
    obtain ⟨k, pre, hk, rfl, hpre, hJs, hkp⟩ := hrel
    by_cases hlt : k < L.length
    · obtain ⟨⟨a, v⟩, hav⟩ : ∃ p, L[k]? = some p := ⟨_, List.getElem?_eq_getElem hlt⟩
      have hc0 : wr.cell? ⟨b, o + k * 2, none⟩ = some (.int .u8 a) := by rw [hkp.2.2 b o rfl (k * 2) (by omega), hcW (k * 2) (by omega)]; exact (hL k a v hav).1
      have hc1 : wr.cell? ⟨b, o + k * 2 + 1, none⟩ = some v := by rw [show o + k * 2 + 1 = o + (k * 2 + 1) by omega, hkp.2.2 b o rfl (k * 2 + 1) (by omega), hcW (k * 2 + 1) (by omega)]; exact (hL k a v hav).2.1
      obtain ⟨vx, vy, vz, rfl⟩ := (hL k a v hav).2.2
      have hb1' := hkp.1 _ k1
      have hb2' := hkp.2.1 _ k2
      have d2 : wr.cell? ⟨b2, 0, none⟩ = some (.int .u8 c) := by simp [World.cell?, hb2']
      have hwrl : b2 < wr.heap.size := (Array.getElem?_eq_some_iff.1 hb2').1
      have hbl2 : b1 < wr.heap.size := (Array.getElem?_eq_some_iff.1 hb1').1
      have hdrop : L.drop k = (a, Value.slice vx vy vz) :: L.drop (k + 1) := by
        rw [List.drop_eq_getElem_cons hlt]
        congr 1
        have := (List.getElem?_eq_some_iff.1 hav).2
        exact this
      rw [hdrop] at hpre
      generalize hW4 : wr.alloc (.cells #[.int .u8 a, .slice vx vy vz] 55) = W4
      have hst : RF.Step (fun r => r = b1 ∨ r = b2) wr W4 := by rw [← hW4]; exact ⟨none, World.grownBy_alloc wr _ none, fun _ e => by cases e⟩
      have hJ4 := hJ _ _ _ hst hJs
      have hk4 : KpOf b1 b2 (some ⟨b, o, none⟩) L W W4 := by
        rw [← hW4]
        refine ⟨fun x hx => (Below.heap_alloc _ _ _ (Array.getElem?_eq_some_iff.1 (hkp.1 x hx)).1).trans (hkp.1 x hx), fun x hx => (Below.heap_alloc _ _ _ (Array.getElem?_eq_some_iff.1 (hkp.2.1 x hx)).1).trans (hkp.2.1 x hx), fun b' o' e j hj => ?_⟩
        cases e
        refine (World.cell?_of_block ?_).trans (hkp.2.2 b o rfl j hj)
        refine Below.heap_alloc _ _ _ ?_
        rcases Nat.lt_or_ge b wr.heap.size with h | h
        · exact h
        · rw [World.cell?, Array.getElem?_eq_none h] at hc0; cases hc0
      by_cases hac : a = c
      · subst hac
        have hpre' : ofL a 0 L = (pre ++ [(k, .slice vx vy vz)]) ++ ofL a (k + 1) (L.drop (k + 1)) := by rw [hpre]; simp [ofL]
        have hp : pre ++ [(k, Value.slice vx vy vz)] <+: ofL a 0 L := ⟨_, hpre'.symm⟩
        obtain ⟨fn, tmps, assign, body, hy, hR⟩ := hY pre (k, .slice vx vy vz) W4 hp hJ4
        have HP := Aside0.mk hpre'
        have HK := Aside0.mk hk4
        clear hpre' hpre hk4 hdrop
        subst hW4
        gi_wp2
        refine hR.mono ?_
        rintro e W3 (⟨rfl, hJ3, hk3⟩ | ⟨rfl, hJx3⟩)
        · gi_wp2
          go_roundw
          case rel => exact ⟨k + 1, _, by omega, by simp, HP.out, hJ3, ⟨fun x hx => hk3.1 x (HK.out.1 x hx), fun x hx => hk3.2.1 x (HK.out.2.1 x hx), fun b' o' e j hj => (hk3.2.2 b' o' e j hj).trans (HK.out.2.2 b' o' e j hj)⟩⟩
          case measure => simp [intOf]; omega
        · gi_wp2
          refine bodyPost_ret (results_none rfl _ _ _) rfl ?_
          exact ⟨⟨_, rfl⟩, .inr ⟨_, hp, hJx3⟩⟩
      · have hbeq : (a == c) = false := by simp [hac]
        have hpre' : ofL c 0 L = pre ++ ofL c (k + 1) (L.drop (k + 1)) := by rw [hpre]; simp [ofL, hac]
        have HP := Aside0.mk hpre'
        have HK := Aside0.mk hk4
        clear hpre' hpre hk4 hdrop
        subst hW4
        gi_wp2
        refine ⟨fun f h => (by cases h), ?_⟩
        try simp [hac]
        gi_wp2
        go_roundw
        case rel => exact ⟨k + 1, _, by omega, by simp, HP.out, hJ4, HK.out⟩
        case measure => simp [intOf]; omega
    · obtain rfl : k = L.length := by omega
      gi_wp2
      go_end0
      rw [List.drop_length] at hpre
      simp only [ofL, List.append_nil] at hpre
      exact ⟨⟨_, rfl⟩, .inl (by rw [hpre]; exact hJs)⟩
end Go.Proofs.Ytgmjbnglenmlpaa.Ab
end
section
/- card.Of as an iterator: its word. -/
set_option linter.unusedVariables false
set_option linter.unusedSimpArgs false
namespace Go.Proofs.Ytgmjbnglenmlpaa.Ab
open Go Go.RowKit Go.Proofs.YtgmjbnglenmlpaaW.PrintWords Go.Proofs.Ytgmjbnglenmlpaa.Given
abbrev cardT : DTy := .prod (.int .u8) (.prod (.slice .str) .unit)
def ofA (c : Int) : Int → List cardT.den → List (prodT [.int .i64, .slice .str]).den
  | _, [] => []
  | k, x :: r => if x.1 = c then (k, x.2.1, ()) :: ofA c (k + 1) r else ofA c (k + 1) r
noncomputable def card_Of.L (x : (prodT [.slice cardT, .int .u8]).den) : Option (List (prodT [.int .i64, .slice .str]).den) := if x.1.length < 4611686018427387904 then some (ofA x.2.1 0 x.1) else none
/-- The cells of one card. -/
theorem pair_cells {hw : Nat → Nat} {w : World} {k : IntKind} {e : DTy} {x : Int} {l : List e.den} {es : List Value} (h : CRel hw w (.prod (.int k) (.prod (.slice e) .unit)) (x, l, ()) es) : ∃ v, es = [.int k x, v] ∧ CRel hw w (.slice e) l [v] := by
  obtain ⟨c1, c2, rfl, h1, h2⟩ := (show ∃ c1 c2, es = c1 ++ c2 ∧ CRel hw w (.int k) x c1 ∧ CRel hw w (.prod (.slice e) .unit) (l, ()) c2 from h)
  have h1 : c1 = [.int k x] := h1
  subst h1
  obtain ⟨c3, c4, rfl, h3, h4⟩ := (show ∃ c3 c4, c2 = c3 ++ c4 ∧ CRel hw w (.slice e) l c3 ∧ CRel hw w .unit () c4 from h2)
  have h4 : c4 = [] := h4
  subst h4
  have h3' := h3
  rw [CRel] at h3
  obtain ⟨A, c, rfl, _⟩ := h3
  exact ⟨_, rfl, h3'⟩
/-- The cells of a row of cards, told as a list. -/
theorem cards_cells {hw : Nat → Nat} {w : World} {e : DTy} {b o : Nat} : ∀ (l : List (DTy.prod (.int .u8) (.prod (.slice e) .unit)).den),
    (∀ i, i < l.length → ∃ es, CRel hw w (.prod (.int .u8) (.prod (.slice e) .unit)) (l.getD i (DTy.dflt _)) es ∧ Holds w b (o + i * 2) es) →
    ∃ L : List (Int × Value), L.length = l.length ∧ ∀ i, i < l.length → ∃ v, L[i]? = some ((l.getD i (DTy.dflt _)).1, v) ∧ CRel hw w (.slice e) (l.getD i (DTy.dflt _)).2.1 [v] ∧ w.cell? ⟨b, o + i * 2, none⟩ = some (.int .u8 (l.getD i (DTy.dflt _)).1) ∧ w.cell? ⟨b, o + (i * 2 + 1), none⟩ = some v := by
  intro l h
  have h2 : ∀ i, i < l.length → ∃ v, CRel hw w (.slice e) (l.getD i (DTy.dflt _)).2.1 [v] ∧ w.cell? ⟨b, o + i * 2, none⟩ = some (.int .u8 (l.getD i (DTy.dflt _)).1) ∧ w.cell? ⟨b, o + (i * 2 + 1), none⟩ = some v := by
    intro i hi
    obtain ⟨es, h1, h3⟩ := h i hi
    obtain ⟨v, rfl, h4⟩ := pair_cells h1
    exact ⟨v, h4, h3 0 (by simp), by have := h3 1 (by simp); rw [Nat.add_assoc] at this; exact this⟩
  refine ⟨(List.range l.length).map fun i => ((l.getD i (DTy.dflt _)).1, if hi : i < l.length then (h2 i hi).choose else undef), by simp, fun i hi => ⟨(h2 i hi).choose, ?_, (h2 i hi).choose_spec⟩⟩
  rw [List.getElem?_map, List.getElem?_range hi]
  simp [hi]
theorem ofA_ofL {hw : Nat → Nat} {w : World} (c : Int) : ∀ (l : List cardT.den) (L : List (Int × Value)) (k : Nat), L.length = l.length →
    (∀ i, i < l.length → ∃ v, L[i]? = some ((l.getD i (DTy.dflt _)).1, v) ∧ CRel hw w (.slice .str) (l.getD i (DTy.dflt _)).2.1 [v]) →
    ElR (gOf hw) w (prodT [.int .i64, .slice .str]) (ofA c k l) ((ofL c k L).map fun x => #[Value.int .i64 x.1, x.2]) := by
  intro l
  induction l with
  | nil =>
    intro L k hl _
    cases L with
    | nil => trivial
    | cons _ _ => cases hl
  | cons x l ih =>
    intro L k hl h
    cases L with
    | nil => cases hl
    | cons p L =>
      obtain ⟨a, v⟩ := p
      obtain ⟨v', h1, h2⟩ := h 0 (by simp)
      simp at h1
      obtain ⟨rfl, rfl⟩ := h1
      have ih' := ih L (k + 1) (by simpa using hl) (fun i hi => by
        have := h (i + 1) (by simpa using hi)
        simpa using this)
      unfold ofA ofL
      by_cases hac : x.1 = c
      · rw [if_pos hac, if_pos hac]
        refine ⟨⟨?_, ?_, trivial⟩, ?_⟩
        · exact @ARel.d (gOf hw) (fun _ => .none) w (.int .i64) (k : Int) _ rfl
        · exact @ARel.d (gOf hw) (fun _ => .none) w (.slice .str) x.2.1 _ h2
        · exact ih'
      · rw [if_neg hac, if_neg hac]
        exact ih'
set_option maxRecDepth 100000 in
set_option maxHeartbeats 4000000 in
theorem of_yield_nil (n : Nat) (hn : 1 ≤ n) (b1 b2 cp : Nat) (A : Option Addr) (c : Int) (hne : b1 ≠ b2) (w : World)
    (h1 : w.heap[b1]? = some (.cells #[.slice A 0 cp] 48 (0, 0))) (h2 : w.heap[b2]? = some (.cells #[.int .u8 c] 5 (0, 0))) (Kp : World → World → Prop) :
    RF.Yields Fence.wide n Try.prog 35 #[.pointer (some ⟨b1, 0, none⟩), .pointer (some ⟨b2, 0, none⟩)] (fun r => r = b1 ∨ r = b2) (fun x : Nat × Value => #[Value.int .i64 x.1, x.2]) Kp ([] : List (Nat × Value)) w := by
  intro l J Jx W hW hJ hJx hY h0
  have hb1 : b1 < w.heap.size := (Array.getElem?_eq_some_iff.1 h1).1
  have k1 : W.heap[b1]? = some (.cells #[.slice A 0 cp] 48 (0, 0)) := (hW.block b1 hb1).trans h1
  have c1 : W.cell? ⟨b1, 0, none⟩ = some (.slice A 0 cp) := by simp [World.cell?, k1]
  refine callsIn_of_wp Try.func35 rfl trivial ?_ rfl
  simp only [Try.ntmps35, List.size_toArray, List.length_cons, List.length_nil, Nat.reduceAdd, Nat.reduceSub, Array.replicate_succ, Array.replicate_zero, List.push_toArray, List.append_toArray, List.nil_append, List.cons_append]
  gi_wp2
  gi_loopw [8] (fun i wr => i = .int .i64 0 ∧ J [] wr) (fun i _ => 0)
  case atStart => exact ⟨rfl, h0⟩
  case round =>
    obtain ⟨rfl, hJs⟩ := hrel
    gi_wp2
    go_end0
    exact ⟨⟨_, rfl⟩, .inl hJs⟩
theorem card_Of.itc : ItC Try.prog 23 ⟨[.slice cardT, .int .u8], prodT [.int .i64, .slice .str], card_Of.L⟩ := by
  intro x l hl hw w vs hz hv
  obtain ⟨u, v, rfl, h1, h2⟩ := vs_two hv
  rw [vrel_int h2]
  obtain ⟨cards, c, _⟩ := x
  have hl : (if cards.length < 4611686018427387904 then some (ofA c 0 cards) else none) = some l := hl
  split at hl
  · rename_i hlen
    cases hl
    obtain ⟨cs, hc, rfl⟩ := h1
    have hc : CRel hw w (.slice cardT) cards cs := hc
    rw [CRel] at hc
    obtain ⟨A, cp, rfl, hlc, hel⟩ := hc
    refine (of_make A cards.length cp c w).mono ?_
    rintro e w' ⟨rfl, rfl⟩
    have hb1 := heap_new w (.cells #[.slice A cards.length cp] 48)
    have hs1 : (w.alloc (.cells #[.slice A cards.length cp] 48)).heap.size = w.heap.size + 1 := by show (w.heap.push _).size = _; rw [Array.size_push]
    have hb2 := heap_new (w.alloc (.cells #[.slice A cards.length cp] 48)) (.cells #[.int .u8 c] 5)
    rw [hs1] at hb2
    have hb1' : ((w.alloc (.cells #[.slice A cards.length cp] 48)).alloc (.cells #[.int .u8 c] 5)).heap[w.heap.size]? = some (.cells #[.slice A cards.length cp] 48 (0, 0)) :=
      (Below.heap_alloc _ _ _ (by omega)).trans hb1
    have hbel : Below w.heap.size w ((w.alloc (.cells #[.slice A cards.length cp] 48)).alloc (.cells #[.int .u8 c] 5)) := ((Below.refl _ w).alloc (Nat.le_refl _) _).alloc (by omega) _
    generalize hw2 : (w.alloc (.cells #[.slice A cards.length cp] 48)).alloc (.cells #[.int .u8 c] 5) = w2 at hb2 hb1' hbel
    have hcell : ∀ b o, o < hw b → w2.cell? ⟨b, o, none⟩ = w.cell? ⟨b, o, none⟩ := by
      intro b o ho
      refine World.cell?_of_block (hbel.block b ?_)
      rcases Nat.lt_or_ge b w.heap.size with h | h
      · exact h
      · rw [hz b (.size h)] at ho; omega
    refine ⟨_, fun r => r = w.heap.size ∨ r = w.heap.size + 1, rfl, hbel, fun b hb => ?_, ?_⟩
    · rcases hb with rfl | rfl
      · exact ⟨Nat.le_refl _, fun hnc => hnc _ _ _ hb1'⟩
      · exact ⟨Nat.le_succ _, fun hnc => hnc _ _ _ hb2⟩
    · cases hcards : cards with
      | nil =>
        subst hcards
        refine ⟨_, _, Nat × Value, (fun x => #[Value.int .i64 x.1, x.2]), [], rfl, fun args w => enters_of Try.func35 (by kernel_rfl) rfl args w, fun _ => rfl, trivial, fun n W hn k1 k2 => ?_⟩
        exact of_yield_nil n hn _ _ cp A c (by omega) W ((k1 _ (.inl rfl)).trans hb1') ((k1 _ (.inr rfl)).trans hb2) _
      | cons y ys =>
        rw [← hcards]
        have hpos : 0 < cards.length := by rw [hcards]; simp
        obtain ⟨b, o, _, hA, _, _, _⟩ := hel 0 hpos
        subst hA
        obtain ⟨L, hLl, hL⟩ := cards_cells (hw := hw) (w := w) (b := b) (o := o) cards (fun i hi => by
          obtain ⟨b', o', es, hA', hr, hh, _⟩ := hel i hi
          cases hA'
          exact ⟨es, hr, hh⟩)
        have hin : ∀ i, i < cards.length → o + i * 2 + 2 ≤ hw b := by
          intro i hi
          obtain ⟨b', o', es, hA', hr, hh, hp⟩ := hel i hi
          cases hA'
          exact hp
        refine ⟨_, _, Nat × Value, (fun x => #[Value.int .i64 x.1, x.2]), ofL c 0 L, rfl, fun args w => enters_of Try.func35 (by kernel_rfl) rfl args w, fun _ => rfl, ?_, fun n W hn k1 k2 => ?_⟩
        · refine ofA_ofL c cards L 0 hLl fun i hi => ?_
          obtain ⟨v, e1, e2, _⟩ := hL i hi
          exact ⟨v, e1, e2.mono (fun _ => Nat.le_refl _) hcell⟩
        · refine yields_kp (fun X Y hk => ?_) (of_yield n hn _ _ cp b o c L (by omega) W (by rw [hLl]; exact (k1 _ (.inl rfl)).trans hb1') ((k1 _ (.inr rfl)).trans hb2) (fun j a v hj => ?_) (by omega) ?_)
          · refine ⟨fun x hx => (hk.2 _ (.inl rfl)).trans hx, fun x hx => (hk.2 _ (.inr rfl)).trans hx, fun b' o' e j hj => ?_⟩
            cases e
            refine hk.1 b (o + j) ?_
            have := hin (j / 2) (by omega)
            omega
          · have hjl : j < cards.length := by rw [← hLl]; exact (List.getElem?_eq_some_iff.1 hj).1
            obtain ⟨v', e1, e2, e3, e4⟩ := hL j hjl
            rw [hj] at e1
            cases e1
            have := hin j hjl
            refine ⟨((k2 b _ (by omega)).trans (hcell b _ (by omega))).trans e3, ((k2 b _ (by omega)).trans (hcell b _ (by omega))).trans e4, ?_⟩
            rw [CRel] at e2
            obtain ⟨A', c', e5, _⟩ := e2
            cases e5
            exact ⟨_, _, _, rfl⟩
          · obtain ⟨v', e1, e2, e3, e4⟩ := hL 0 hpos
            have := hin 0 hpos
            have e5 := ((k2 b _ (by omega)).trans (hcell b (o + 0 * 2) (by omega))).trans e3
            rcases Nat.lt_or_ge b W.heap.size with h | h
            · exact h
            · rw [World.cell?, Array.getElem?_eq_none h] at e5; cases e5
  · cases hl
end Go.Proofs.Ytgmjbnglenmlpaa.Ab
end
