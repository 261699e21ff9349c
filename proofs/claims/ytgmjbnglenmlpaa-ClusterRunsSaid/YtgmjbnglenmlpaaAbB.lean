import Derived.Test.YtgmjbnglenmlpaaAbA
import Derived.OwnWalkIn
section
/- The abstract machine: fields, loads, builds. -/
set_option linter.unusedVariables false
set_option linter.unusedSimpArgs false
namespace Go.Proofs.Ytgmjbnglenmlpaa.Ab
open Go Go.RowKit
section
variable {P : Program} {E : Env} {g : G} {O : Nat → AObj} {w : World}
theorem fields_desc (hty : ∀ t r, E.ty t = some r → TyOk P E t r) {t : Nat} {r : TyRow} (h : E.ty t = some r) {fs : List (Nat × Nat)} (hf : r.kind.fields = some fs) :
    ∃ fields : Array Field, P.underlying t = some (.struct fields) ∧ fields.toList.map (fun f => (f.type, f.offset)) = fs ∧ ∀ f ∈ fs, ∃ q, E.ty f.1 = some q ∧ q.size ≠ 0 := by
  obtain ⟨d, h1, h2⟩ := (hty t r h).desc
  have h3 := (hty t r h).fld
  cases hk : r.kind <;> rw [hk] at hf h2 <;> simp [TK.fields] at hf
  subst hf
  rw [DescIs] at h2
  obtain ⟨f, rfl, h4⟩ := h2
  exact ⟨f, h1, h4, h3 _ hk⟩
theorem field_get {fields : Array Field} {fs : List (Nat × Nat)} (h : fields.toList.map (fun f => (f.type, f.offset)) = fs) {f : Nat} {p : Nat × Nat} (hp : fs[f]? = some p) : ∃ fd, fields[f]? = some fd ∧ fd.type = p.1 ∧ fd.offset = p.2 := by
  subst h
  rw [List.getElem?_map] at hp
  obtain ⟨fd, h1, h2⟩ := Option.map_eq_some_iff.1 hp
  rw [Array.getElem?_toList] at h1
  cases h2
  exact ⟨fd, h1, rfl, rfl⟩
theorem proj_rel {mk : (τ : DTy) → τ.den → AVal} : ∀ {f : Nat} {τ : DTy} {v : τ.den} {o : Nat} {a : DTy} {u : AVal}, projT f τ = some (o, a) → projA mk f τ v = some u →
    ∃ x, u = mk a x ∧ o + a.size ≤ τ.size ∧ ∀ cs, CRel g.hw w τ v cs → CRel g.hw w a x ((cs.drop o).take a.size) := by
  intro f
  induction f with
  | zero =>
    intro τ v o a u h1 h2
    cases τ with
    | prod b c =>
      simp only [projT, Option.some.injEq, Prod.mk.injEq] at h1
      simp only [projA, Option.some.injEq] at h2
      obtain ⟨rfl, rfl⟩ := h1
      refine ⟨v.1, h2.symm, by simp [DTy.size], fun cs hc => ?_⟩
      rw [CRel] at hc
      obtain ⟨c1, c2, rfl, hc1, _⟩ := hc
      rw [List.drop_zero, ← hc1.length, List.take_left]
      exact hc1
    | _ => simp [projT] at h1
  | succ f ih =>
    intro τ v o a u h1 h2
    cases τ with
    | prod b c =>
      simp only [projT] at h1
      obtain ⟨p, hp, hh⟩ := Option.map_eq_some_iff.1 h1
      cases hh
      obtain ⟨x, h3, h4, h5⟩ := ih hp h2
      refine ⟨x, h3, by simp only [DTy.size]; omega, fun cs hc => ?_⟩
      rw [CRel] at hc
      obtain ⟨c1, c2, rfl, hc1, hc2⟩ := hc
      have := h5 c2 hc2
      rw [← List.drop_drop, ← hc1.length, List.drop_left]
      exact this
    | _ => simp [projT] at h1
theorem opFieldAddr_run (hty : ∀ t r, E.ty t = some r → TyOk P E t r) {s f : Nat} {x : AVal} {vx : Value} {out : Out} (h : opFieldAddr E s x f = some out) (hx : ARel g O w x vx) : PureO out (Reads P (Instr.fieldAt s vx f) g O w) := by
  unfold opFieldAddr at h
  obtain ⟨r, hr, h1⟩ := bind_someO h
  obtain ⟨fs, hfs, h2⟩ := bind_someO h1
  obtain ⟨p, hp, h3⟩ := bind_someO h2
  clear h h1 h2
  obtain ⟨fields, hu, hm, hz⟩ := fields_desc hty hr hfs
  obtain ⟨fd, hfd, e1, e2⟩ := field_get hm hp
  obtain ⟨q, hq, hq0⟩ := hz p (List.mem_of_getElem? hp)
  have run : ∀ b o, (Instr.fieldAt s (.pointer (some ⟨b, o, none⟩)) f).run P w = .ok (.pointer (some ⟨b, o + p.2, none⟩)) w := by
    intro b o
    simp only [Instr.fieldAt, Sem.run_bind, run_under hu, Result.andThen_ok, hfd, Instr.sureAddr, Sem.run_pure, fieldPlace, e1, (hty _ _ hq).sizeOf, hq0, if_false, e2, addr_add]
  cases x with
  | ptr id o =>
    cases hx with
    | ptr hn hv => exact retV_pure h3 ⟨_, run _ _, .ptr hn hv⟩
  | cp τ v =>
    dsimp only at h3
    obtain ⟨qq, hqq, h4⟩ := bind_someO h3
    obtain ⟨he, h5⟩ := ifO_some h4
    obtain ⟨u, hu1, h6⟩ := bind_someO h5
    have he := Nat.eq_of_beq_eq_true he
    obtain ⟨o, a⟩ := qq
    cases hx with
    | cp hc hh hp' =>
      rename_i cs b o0
      obtain ⟨xf, rfl, hle, hcr⟩ := proj_rel (g := g) (w := w) hqq hu1
      dsimp only at he
      subst he
      exact retV_pure h6 ⟨_, run _ _, .cp (hcr _ hc) (hh.part _ _) (by omega)⟩
  | _ => cases h3
theorem opField_run (hty : ∀ t r, E.ty t = some r → TyOk P E t r) {s f : Nat} {x : AVal} {vx : Value} {out : Out} (h : opField E s x f = some out) (hx : ARel g O w x vx) : PureO out (Reads P (Instr.field s vx f) g O w) := by
  unfold opField at h
  obtain ⟨r, hr, h1⟩ := bind_someO h
  obtain ⟨fs, hfs, h2⟩ := bind_someO h1
  obtain ⟨p, hp, h3⟩ := bind_someO h2
  clear h h1 h2
  obtain ⟨fields, hu, hm, hz⟩ := fields_desc hty hr hfs
  obtain ⟨fd, hfd, e1, e2⟩ := field_get hm hp
  cases x with
  | d τ v =>
    dsimp only at h3
    obtain ⟨qq, hqq, h4⟩ := bind_someO h3
    obtain ⟨q, hq, h4⟩ := bind_someO h4
    obtain ⟨he, h5⟩ := ifO_some h4
    obtain ⟨u, hu1, h6⟩ := bind_someO h5
    simp only [Bool.and_eq_true, beq_iff_eq] at he
    obtain ⟨⟨he1, he2⟩, he3⟩ := he
    have he1 := Nat.eq_of_beq_eq_true he1
    have he2 := Nat.eq_of_beq_eq_true he2
    obtain ⟨o, a⟩ := qq
    dsimp only at he1 he2 he3
    obtain ⟨cs, hc, rfl⟩ := arel_d hx
    obtain ⟨xf, rfl, hle, hcr⟩ := proj_rel (g := g) (w := w) hqq hu1
    have hcs := hcr _ hc
    have hag : τ.agg = true := by cases τ with
      | prod _ _ => rfl
      | _ => cases f <;> simp [projT] at hqq
    rw [wrapV_agg hag]
    have hl := hc.length
    refine retV_pure h6 ⟨wrapV a ((cs.drop o).take a.size), ?_, .d hcs⟩
    simp only [Instr.field, Sem.run_bind, run_under hu, Result.andThen_ok, hfd, asAgg, Sem.run_pure, part, e1, e2, (hty _ _ hq).isAgg, (hty _ _ hq).sizeOf]
    cases ha : a.agg with
    | true =>
      rw [ha] at he3
      rw [← he3, wrapV_agg ha, ← he1]
      simp only [if_true, Sem.run_bind, (hty _ _ hq).sizeOf, Result.andThen_ok, Sem.run_pure, ← he2]
      congr 2
      apply Array.toList_inj.1
      simp [List.drop_take]
    | false =>
      rw [ha] at he3
      rw [← he3, ← he1]
      have hs1 := size_leaf ha
      have hlt : o < cs.length := by omega
      have e : (cs.drop o).take a.size = [cs[o]] := by
        rw [hs1, List.drop_eq_getElem_cons hlt]; rfl
      rw [e, wrapV_leaf ha]
      simp [hlt]
  | _ => cases h3
theorem opExtract_run {x : AVal} {i : Nat} {vx : Value} {out : Out} (h : opExtract x i = some out) (hx : ARel g O w x vx) : PureO out (Reads P (Instr.extract vx i) g O w) := by
  unfold opExtract at h
  cases x with
  | tup l =>
    dsimp only at h
    obtain ⟨u, hu, h⟩ := bind_someO h
    cases hx with
    | tup hl hh =>
      rename_i vs
      have hi := (List.getElem?_eq_some_iff.1 hu).1
      have h1 := hh i hi
      rw [List.getD_eq_getElem?_getD, hu] at h1
      refine retV_pure h ⟨_, ?_, h1⟩
      simp only [Instr.extract]
      have hv : i < vs.size := by omega
      rw [Array.getElem?_eq_getElem hv]
      simp [Array.getD, hv]
  | _ => cases h
theorem opPick_run {c a b : AVal} {vc va vb : Value} {out : Out} (h : opPick c a b = some out) (hc : ARel g O w c vc) (ha : ARel g O w a va) (hb : ARel g O w b vb) :
    PureO out (Reads P (do pure (if ← asBool vc then va else vb)) g O w) := by
  unfold opPick at h
  split at h
  · rename_i t τ x τ' y
    obtain ⟨y', hy, h⟩ := bind_someO h
    obtain ⟨e, rfl⟩ := castD_some hy
    subst e
    rw [arel_bool hc]
    cases t with
    | true => exact retV_pure h ⟨va, by simp [asBool], ha⟩
    | false => exact retV_pure h ⟨vb, by simp [asBool], hb⟩
  · rename_i t τ x
    rw [arel_bool hc]
    refine retC_pure h fun hcs => ?_
    have := hcs _ (List.mem_singleton.2 rfl)
    subst this
    exact ⟨va, by simp [asBool], ha⟩
  · rename_i t τ x
    rw [arel_bool hc]
    refine retC_pure h fun hcs => ?_
    have := hcs _ (List.mem_singleton.2 rfl)
    simp at this
    subst this
    exact ⟨vb, by simp [asBool], hb⟩
  · cases h
theorem opMinMax_run {b : Builtin} {xs : List AVal} {vs : Array Value} {out : Out} (h : opMinMax b xs = some out) (hx : AllR (ARel g O w) xs vs.toList) (ts : Array Nat) (ty : Nat) :
    PureO out (Reads P (match b with | .min => Builtin.min_ ts ty vs | _ => Builtin.max_ ts ty vs) g O w) := by
  unfold opMinMax at h
  split at h
  · rename_i x y
    match hv : vs.toList, hx with
    | [v1, v2], ⟨h1, h2, _⟩ =>
      rw [arel_int h1, arel_int h2] at hv
      refine retV_pure h ⟨.int .i64 (if y < x then y else x), ?_, mk_int _ _⟩
      simp [Builtin.min_, hv, Builtin.min2]
  · rename_i x y
    match hv : vs.toList, hx with
    | [v1, v2], ⟨h1, h2, _⟩ =>
      rw [arel_int h1, arel_int h2] at hv
      refine retV_pure h ⟨.int .i64 (if y > x then y else x), ?_, mk_int _ _⟩
      simp [Builtin.max_, hv, Builtin.max2]
  · cases h
end
section
variable {P : Program} {E : Env} {π : Par} {fr : Nat → Prop} {w0 : World} {hw0 : Nat → Nat} {g : G} {O : Nat → AObj} {w : World}
theorem boxOf_some {x : AObj} {cs : List AVal} (h : boxOf x = some cs) : x = .box cs := by
  cases x <;> simp [boxOf] at h
  rw [h]
theorem Sim.box (h : Sim π fr w0 hw0 g O w) {id : Nat} {cs : List AVal} (hb : O id = .box cs) :
    (∀ b, g.own id b ↔ b = g.loc id) ∧ g.hw (g.loc id) = 0 ∧ ∃ arr T, w.heap[g.loc id]? = some (.cells arr T (0, 0)) ∧ AllR (ARel g O w) cs arr.toList ∧ ∀ v ∈ arr.toList, v.oneCell' = true := by
  have := h.obj id
  unfold ObjOk at this
  rw [hb] at this
  exact this
theorem row_holds {b : Nat} {arr : Array Value} {T : TypeId} {f : Nat × Nat} (h : w.heap[b]? = some (.cells arr T f)) (o n : Nat) : Holds w b o ((arr.toList.drop o).take n) := by
  intro j hj
  rw [cell_of_row w b (o + j) arr T f h]
  rw [List.length_take, List.length_drop] at hj
  rw [List.getElem?_take_of_lt (by omega), List.getElem?_drop]
  simp
theorem opLoad_run (hty : ∀ t r, E.ty t = some r → TyOk P E t r) (hs : Sim π fr w0 hw0 g O w) {t : Nat} {a : AVal} {va : Value} {out : Out} (h : opLoad E t a O = some out) (ha : ARel g O w a va) : PureO out (Reads P (Instr.loadAt t va) g O w) := by
  unfold opLoad at h
  obtain ⟨r, hr, h1⟩ := bind_someO h
  clear h
  have hk := hty t r hr
  cases a with
  | cp τ x =>
    dsimp only at h1
    obtain ⟨hd, h2⟩ := ifO_some h1
    have hd := of_decide_eq_true hd
    obtain ⟨hsz, hag⟩ := hk.dty _ hd
    cases ha with
    | cp hc hh hp =>
      rename_i cs b o
      have hl := hc.length
      refine retV_pure h2 ⟨_, ?_, .d hc⟩
      simp only [Instr.loadAt, Instr.sureAddr, Sem.run_bind, Sem.run_pure, Result.andThen_ok, loadVar, hk.isAgg]
      cases hg : τ.agg with
      | true =>
        rw [hg] at hag
        rw [← hag, wrapV_agg hg]
        simp only [if_true, Sem.run_bind, hk.sizeOf, Result.andThen_ok, loadCells_holds hh (show r.size = cs.length by omega), Sem.run_pure]
      | false =>
        rw [hg] at hag
        rw [← hag]
        rw [size_leaf hg] at hl
        match cs, hl with
        | [c], _ => rw [wrapV_leaf hg]; simp only [Bool.false_eq_true, if_false]; exact load_holds hh
  | ptr id off =>
    dsimp only at h1
    obtain ⟨cs, hcs, h2⟩ := bind_someO h1
    obtain ⟨hle, h3⟩ := ifO_some h2
    have hle := Nat.le_of_ble_eq_true hle
    have hbox := boxOf_some hcs
    obtain ⟨_, _, arr, T, hb1, hb2, hb3⟩ := hs.box hbox
    have hlen := hb2.length
    cases ha with
    | ptr hn hv =>
      cases hg : r.kind.agg with
      | true =>
        rw [hg] at h3
        refine retR_pure h3 ⟨.agg ((arr.toList.drop off).take r.size).toArray, ?_, dOr_rel ((hb2.drop off).take r.size) (fun τ hτ => by rw [(hk.dty _ hτ).2, hg])⟩
        have hh := row_holds hb1 off r.size
        simp only [Instr.loadAt, Instr.sureAddr, Sem.run_bind, Sem.run_pure, Result.andThen_ok, loadVar, hk.isAgg, hg, if_true, hk.sizeOf, loadCells_holds hh (show r.size = _ by rw [List.length_take, List.length_drop]; omega)]
      | false =>
        rw [hg] at h3
        obtain ⟨h1', h4⟩ := ifO_some h3
        have h1' := Nat.eq_of_beq_eq_true h1'
        have hget := hb2.get off (by omega)
        refine retR_pure h4 ⟨_, ?_, hget⟩
        simp only [Instr.loadAt, Instr.sureAddr, Sem.run_bind, Sem.run_pure, Result.andThen_ok, loadVar, hk.isAgg, hg, Bool.false_eq_true, if_false]
        have hlt : off < arr.size := by rw [← Array.length_toList]; omega
        have hcell := cell_of_row w (g.loc id) off arr T (0, 0) hb1
        simp only [run_load, hcell, Array.getElem?_eq_getElem hlt]
        simp [hlt]
  | _ => cases h1
theorem opNil_run {x : AVal} {vx : Value} {out : Out} (h : opNil x = some out) (hx : ARel g O w x vx) : ∃ b, (vx = .pointer (some b) ∨ ∃ f vs, vx = .func (.func f) #[] vs) ∧ PureO out (fun u => ARel g O w u vx) := by
  unfold opNil at h
  cases x with
  | ptr id off => cases hx with
    | ptr hn hv => exact ⟨_, .inl rfl, retV_pure h (.ptr hn hv)⟩
  | cp τ x => cases hx with
    | cp h1 h2 h3 => exact ⟨_, .inl rfl, retV_pure h (.cp h1 h2 h3)⟩
  | fn f c => cases hx with
    | fn h1 h2 => exact ⟨⟨0, 0, none⟩, .inr ⟨_, _, rfl⟩, retV_pure h (.fn h1 h2)⟩
  | _ => cases h
end
end Go.Proofs.Ytgmjbnglenmlpaa.Ab
end
section
/- The abstract machine: new objects, stores, builds. -/
set_option linter.unusedVariables false
set_option linter.unusedSimpArgs false
namespace Go.Proofs.Ytgmjbnglenmlpaa.Ab
open Go Go.RowKit
theorem set_many (vs : List Value) : ∀ (off k : Nat) (cells : Array Value), off + k + vs.length ≤ cells.size →
    ((vs.zipIdx k).foldl (fun cs (p : Value × Nat) => cs.setIfInBounds (off + p.2) p.1) cells).toList = cells.toList.take (off + k) ++ vs ++ cells.toList.drop (off + k + vs.length) := by
  induction vs with
  | nil => intro off k cells h; simp
  | cons v vs ih =>
    intro off k cells h
    simp only [List.length_cons] at h
    rw [List.zipIdx_cons, List.foldl_cons, ih off (k + 1) _ (by simp; omega)]
    have hlt : off + k < cells.toList.length := by simp; omega
    rw [Array.toList_setIfInBounds, List.take_set, List.drop_set, if_pos (by omega)]
    have e1 : (cells.toList.take (off + (k + 1))).set (off + k) v = cells.toList.take (off + k) ++ [v] := by
      have : off + (k + 1) = off + k + 1 := by omega
      rw [this, List.take_succ_eq_append_getElem hlt, List.set_append_right _ _ (by simp; omega)]
      simp
      have : min (off + k) cells.size = off + k := by omega
      simp [this]
    rw [e1]
    simp only [List.length_cons, List.append_assoc, List.cons_append, List.nil_append]
    have : off + (k + 1) + vs.length = off + k + (vs.length + 1) := by omega
    rw [this]
theorem AllR.replace {R : AVal → Value → Prop} {us : List AVal} {vs : List Value} {ds : List AVal} {es : List Value} (h : AllR R us vs) (k : AllR R ds es) (o : Nat) : AllR R (replaceAt us o ds) (vs.take o ++ es ++ vs.drop (o + es.length)) := by
  unfold replaceAt
  rw [← k.length]
  exact ((h.take o).append k).append (h.drop _)
section
variable {P : Program} {E : Env} {g : G} {O : Nat → AObj} {w : World}
/-- Parts, one by one, each with its place. -/
def PartsR (g : G) (O : Nat → AObj) (w : World) : List (Nat × AVal) → List (Nat × Value) → Prop
  | [], [] => True
  | p :: ps, q :: qs => p.1 = q.1 ∧ ARel g O w p.2 q.2 ∧ PartsR g O w ps qs
  | _, _ => False
theorem fill_rel {place : Nat → Option (Nat × Nat)} : ∀ {ps : List (Nat × AVal)} {qs : List (Nat × Value)} {us us' : List AVal} {cells : Array Value},
    fillA place us ps = some us' → PartsR g O w ps qs → AllR (ARel g O w) us cells.toList → ∃ cells', Instr.fill place cells qs = some cells' ∧ AllR (ARel g O w) us' cells'.toList := by
  intro ps
  induction ps with
  | nil =>
    intro qs us us' cells h hp hr
    cases qs with
    | cons _ _ => exact hp.elim
    | nil => cases h; exact ⟨cells, rfl, hr⟩
  | cons p ps ih =>
    intro qs us us' cells h hp hr
    cases qs with
    | nil => exact hp.elim
    | cons q qs =>
      obtain ⟨i, u⟩ := p
      obtain ⟨j, v⟩ := q
      obtain ⟨rfl, hu, hp⟩ := hp
      unfold fillA at h
      obtain ⟨pl, hpl, h⟩ := bind_some h
      obtain ⟨cs, hcs, h⟩ := bind_some h
      obtain ⟨hb, h⟩ := ifB_some h
      simp only [Bool.and_eq_true] at hb
      have e1 := Nat.eq_of_beq_eq_true hb.1
      have e2 : pl.1 + pl.2 ≤ us.length := Nat.le_of_ble_eq_true hb.2
      obtain ⟨hc, _⟩ := cells_rel hcs hu
      have hl := hc.length
      have hl2 := hr.length
      simp only [Array.length_toList] at hl hl2
      unfold Instr.fill
      dsimp only at hpl ⊢
      rw [hpl]
      obtain ⟨off, size⟩ := pl
      dsimp only at e1 e2 h ⊢
      have e4 : v.cells.size = size := by omega
      have e5 : off + v.cells.size ≤ cells.size := by omega
      rw [if_neg (by simp only [Bool.or_eq_true, decide_eq_true_eq, not_or, ne_eq, Decidable.not_not, gt_iff_lt, Nat.not_lt]; exact ⟨e4, e5⟩)]
      refine ih h hp ?_
      have hs := set_many v.cells.toList off 0 cells (by simp only [Array.length_toList]; omega)
      have e3 : (v.cells.zipIdx.foldl (fun cs (x : Value × Nat) => match x with | (c, j) => cs.setIfInBounds (off + j) c) cells).toList = cells.toList.take off ++ v.cells.toList ++ cells.toList.drop (off + v.cells.toList.length) := by
        rw [← Array.foldl_toList, Array.toList_zipIdx]
        exact hs
      rw [e3]
      exact hr.replace hc off
theorem parts_rel {ρa : Operand → AVal} {ρ : Operand → Value} (hr : ∀ x, ARel g O w (ρa x) (ρ x)) (ps : List (Nat × Operand)) : PartsR g O w (ps.map fun p => (p.1, ρa p.2)) (ps.map fun p => (p.1, ρ p.2)) := by
  induction ps with
  | nil => trivial
  | cons p ps ih => exact ⟨rfl, hr _, ih⟩
theorem fill_congr {place place' : Nat → Option (Nat × Nat)} (h : ∀ i p, place i = some p → place' i = some p) : ∀ {qs : List (Nat × Value)} {cells cells' : Array Value}, Instr.fill place cells qs = some cells' → Instr.fill place' cells qs = some cells' := by
  intro qs
  induction qs with
  | nil => intro cells cells' hf; exact hf
  | cons q qs ih =>
    intro cells cells' hf
    obtain ⟨i, v⟩ := q
    unfold Instr.fill at hf ⊢
    cases hp : place i with
    | none => rw [hp] at hf; cases hf
    | some p =>
      rw [hp] at hf
      rw [h i p hp]
      obtain ⟨off, size⟩ := p
      dsimp only at hf ⊢
      split at hf
      · cases hf
      · rename_i hn
        rw [if_neg hn]
        exact ih hf
theorem opBuild_run (hty : ∀ t r, E.ty t = some r → TyOk P E t r) {t : Nat} {ps : List (Nat × AVal)} {qs : Array (Nat × Value)} {out : Out} (h : opBuild E t ps = some out) (hp : PartsR g O w ps qs.toList) : PureO out (Reads P (Instr.build t qs) g O w) := by
  unfold opBuild at h
  obtain ⟨r, hr, h1⟩ := bind_someO h
  obtain ⟨fs, hfs, h2⟩ := bind_someO h1
  obtain ⟨cs, hcs, h3⟩ := bind_someO h2
  clear h h1 h2
  obtain ⟨fields, hu, hm, hz⟩ := fields_desc hty hr hfs
  obtain ⟨i, z, i1, i2, i3, i4, i5, i6, i7⟩ := (hty t r hr).info
  have hzr : AllR (ARel g O w) r.zero z.cells.toList := by rw [← i5]; exact ofCells_rel _
  obtain ⟨cells', hf, hall⟩ := fill_rel hcs hp hzr
  have hagg : ∀ τ, r.dty = some τ → τ.agg = true := by
    intro τ hτ
    rw [((hty t r hr).dty τ hτ).2]
    cases hk : r.kind <;> rw [hk] at hfs <;> simp [TK.fields] at hfs
    rfl
  have hplaces : ∃ places : List (Nat × Nat), fields.toList.mapM (fun f => (P.info? f.type).map fun i => (f.offset, i.size)) = some places ∧ ∀ (j : Nat) (p : Nat × Nat), ((fs[j]?).bind fun (f : Nat × Nat) => (E.ty f.1).map fun q => (f.2, q.size)) = some p → places[j]? = some p := by
    clear hu hcs hf hall hfs h3
    subst hm
    generalize fields.toList = fl at hz
    induction fl with
    | nil => exact ⟨[], rfl, fun j p h => by simp at h⟩
    | cons f fl ih =>
      obtain ⟨places, h1, h2⟩ := ih (fun x hx => hz x (List.mem_cons_of_mem _ hx))
      obtain ⟨q, hq, _⟩ := hz (f.type, f.offset) (by simp)
      obtain ⟨i', z', j1, j2, _⟩ := (hty _ _ hq).info
      refine ⟨(f.offset, i'.size) :: places, by simp [h1, j1], fun j p hjp => ?_⟩
      cases j with
      | zero =>
        dsimp only at hq
        simp [hq] at hjp
        simp [← hjp, j2]
      | succ j => simpa using h2 j p (by simpa using hjp)
  obtain ⟨places, hp1, hp2⟩ := hplaces
  have hb : P.built t qs.toList = some cells' := by
    unfold Program.built
    rw [i1, hu]
    dsimp only
    rw [i4, hp1]
    dsimp only
    exact fill_congr (fun j p hj => by simpa using hp2 j p hj) hf
  refine retV_pure h3 ⟨.agg cells', run_build w t qs cells' hb, ?_⟩
  have key : ∀ (b : Bool) t, cond b none r.dty = some t → t.agg = true := by
    intro b t ht
    cases b with
    | true => cases ht
    | false => exact hagg t ht
  have := dOr_rel hall (key (cs.any AVal.isRow))
  simpa using this
end
section
variable {P : Program} {E : Env} {π : Par} {fr : Nat → Prop} {w0 : World} {hw0 : Nat → Nat} {g : G} {O : Nat → AObj} {w : World}
/-- What a step leaves: a value, the objects. -/
def Goes (π : Par) (fr : Nat → Prop) (w0 : World) (hw0 : Nat → Nat) (g : G) (O O' : Nat → AObj) (w w' : World) (u : AVal) (v : Value) : Prop :=
  ∃ g', ARel g' O' w' u v ∧ Sim π fr w0 hw0 g' O' w' ∧ Adv g O w g' O' w'
theorem applyU_one (d : Nat) (x : AObj) (O : Nat → AObj) : applyU [d] (fun _ => x) O = put O d x := by
  funext i
  by_cases h : i = d
  · subst h; rw [put_same, applyU_mem (by simp)]
  · rw [put_ne _ _ h, applyU_other (by simpa using h)]
/-- An outcome that writes one object, or none. -/
def WriteO (out : Out) (Res : AVal → (Nat → AObj) → Prop) (O : Nat → AObj) : Prop := ∃ cs u x ws rs, out = ⟨cs, .unit, some (), fun _ => (u, x), ws, rs⟩ ∧ ((∀ b, b ∈ cs → b = true) → Res u (applyU ws x O))
theorem retW_write {cs : List Bool} {u : AVal} {id : Nat} {x : AObj} {out : Out} {Res : AVal → (Nat → AObj) → Prop} (h : retW cs u id x = some out) (hr : (∀ b, b ∈ cs → b = true) → Res u (put O id x)) : WriteO out Res O := by
  cases h
  exact ⟨cs, u, _, [id], [], rfl, fun hc => by rw [applyU_one]; exact hr hc⟩
theorem retV_write {u : AVal} {out : Out} {Res : AVal → (Nat → AObj) → Prop} (h : retV u = some out) (hr : Res u O) : WriteO out Res O := by
  cases h
  exact ⟨[], u, _, [], [], rfl, fun _ => hr⟩
/-- A run that ends with a value. -/
def Makes (P : Program) (S : Sem Value) (π : Par) (fr : Nat → Prop) (w0 : World) (hw0 : Nat → Nat) (g : G) (O : Nat → AObj) (w : World) (u : AVal) (O' : Nat → AObj) : Prop :=
  ∃ v w', S.run P w = .ok v w' ∧ Goes π fr w0 hw0 g O O' w w' u v
theorem isNone_some {x : AObj} (h : isNone x = true) : x = .none := by cases x <;> simp [isNone] at h; rfl
/-- A new box. -/
theorem box_born (hπ : π.Ok) (hs : Sim π fr w0 hw0 g O w) {d : Nat} (hO : O d = .none) (T : TypeId) {us : List AVal} {cells : Array Value} (hr : AllR (ARel g O w) us cells.toList) (h1 : ∀ v ∈ cells.toList, v.oneCell' = true) :
    Goes π fr w0 hw0 g O (put O d (.box us)) w (w.alloc (.cells cells T)) (.ptr d 0) (.pointer (some ⟨w.heap.size, 0, none⟩)) := by
  obtain ⟨g', s1, a1, e1, e2, e3, e4⟩ := hs.born hπ (w' := w.alloc (.cells cells T)) ⟨rfl, rfl, rfl⟩ (by simp) (fun b hb => Below.heap_alloc _ _ _ hb) ⟨_, _, _, heap_new w _⟩ d (.box us) (.inl hO) 0 .nilFunc (by
    intro g' O' hg hO' ha
    unfold ObjOk
    rw [hO', put_same]
    subst hg
    dsimp only
    rw [put_same, put_same, put_same]
    exact ⟨fun b => Iff.rfl, rfl, cells, T, heap_alloc_new w _, hr.mono (fun _ _ => ARel.mono (by rw [← hO']; exact ha)), h1⟩)
  refine ⟨g', ?_, s1, a1⟩
  rw [← e1]
  exact .ptr (by rw [put_same]; simp) (by rw [put_same]; simp)
theorem opBox_run (hπ : π.Ok) (hs : Sim π fr w0 hw0 g O w) {e d : Nat} {x : AVal} {vx : Value} {out : Out} (h : opBox d x O = some out) (hx : ARel g O w x vx) : WriteO out (Makes P (Instr.box e vx) π fr w0 hw0 g O w) O := by
  unfold opBox at h
  obtain ⟨cs, hcs, h1⟩ := bind_someO h
  obtain ⟨hO, h2⟩ := ifO_some h1
  obtain ⟨hr, hl⟩ := cells_rel hcs hx
  exact retW_write h2 fun _ => ⟨_, _, by simp only [Instr.box, newVar, newRow, Sem.run_bind, run_newObj, Result.andThen_ok, Sem.run_pure, World.alloc_eq], box_born hπ hs (isNone_some hO) e hr (allR_one hr hl)⟩
theorem opAlloc_run (hπ : π.Ok) (hty : ∀ t r, E.ty t = some r → TyOk P E t r) (hbld : ∀ i z, P.info? E.bty = some i → i.zero = some z → ∀ w : World, π.bd (w.alloc (.cells z.cells E.bty)) w.heap.size (.slice none 0 0) [])
    (hs : Sim π fr w0 hw0 g O w) {e d : Nat} {out : Out} (h : opAlloc E e d O = some out) : WriteO out (Makes P (Instr.alloc e true (.tuple #[])) π fr w0 hw0 g O w) O := by
  unfold opAlloc at h
  obtain ⟨r, hr, h1⟩ := bind_someO h
  obtain ⟨hO, h2⟩ := ifO_some h1
  have hO := isNone_some hO
  obtain ⟨i, z, i1, i2, i3, i4, i5, i6, i7⟩ := (hty e r hr).info
  have run : (Instr.alloc e true (.tuple #[])).run P w = .ok (.pointer (some ⟨w.heap.size, 0, none⟩)) (w.alloc (.cells z.cells e)) := by
    simp only [Instr.alloc, zeroValue, typeInfo, Sem.run_bind, run_program, Result.andThen_ok, i1, Sem.run_pure, i4, newVar, newRow, run_newObj, World.alloc_eq]
  cases hb : Nat.beq e E.bty with
  | false =>
    rw [hb] at h2
    refine retW_write h2 fun _ => ⟨_, _, run, box_born hπ hs hO e ?_ ?_⟩
    · rw [← i5]; exact ofCells_rel _
    · intro v hv; exact List.all_eq_true.1 i7 v hv
  | true =>
    rw [hb] at h2
    have hb := Nat.eq_of_beq_eq_true hb
    subst hb
    refine retW_write h2 fun _ => ⟨_, _, run, ?_⟩
    obtain ⟨g', s1, a1, e1, e2, e3, e4⟩ := hs.born hπ (w' := w.alloc (.cells z.cells E.bty)) ⟨rfl, rfl, rfl⟩ (by simp) (fun b hb => Below.heap_alloc _ _ _ hb) ⟨_, _, _, heap_new w _⟩ d (.bld []) (.inl hO) 0 (.slice none 0 0) (by
      intro g' O' hg hO' ha
      unfold ObjOk
      rw [hO', put_same]
      subst hg
      dsimp only
      rw [put_same, put_same, put_same, put_same]
      refine ⟨rfl, rfl, fun b hb => by rw [hb, put_same], fun b hb => by simp [Value.ownBlock] at hb, hbld i z i1 i4 w⟩)
    refine ⟨g', ?_, s1, a1⟩
    rw [← e1]
    exact .ptr (by rw [put_same]; simp) (by rw [put_same]; simp)
end
end Go.Proofs.Ytgmjbnglenmlpaa.Ab
end
section
/- The abstract machine: stores, literals of slices, make, append. -/
set_option linter.unusedVariables false
set_option linter.unusedSimpArgs false
namespace Go.Proofs.Ytgmjbnglenmlpaa.Ab
open Go Go.RowKit
section
variable {P : Program} {E : Env} {π : Par} {fr : Nat → Prop} {w0 : World} {hw0 : Nat → Nat} {g : G} {O : Nat → AObj} {w : World}
/-- One object's block is written anew, what never turns apart; the object is another. -/
theorem Sim.write (hπ : π.Ok) (hs : Sim π fr w0 hw0 g O w) {id : Nat} {arr cs : Array Value} {T : TypeId} (hO : O id ≠ .none) (hown : ∀ b, g.own id b ↔ b = g.loc id) (hb : w.heap[g.loc id]? = some (.cells arr T (0, 0)))
    (m : Nat) (hm : g.hw (g.loc id) ≤ m) (hkeep : ∀ j, j < g.hw (g.loc id) → cs[j]? = arr[j]?) (x : AObj) (cv : Value)
    (hx : (∃ us us', O id = .box us ∧ x = .box us') ∨ ∃ e k, O id = .vec e k ∧ x = .vec e (k + 1))
    (hok : ∀ (g' : G) (O' : Nat → AObj), g' = { g with hw := put g.hw (g.loc id) m, cur := put g.cur id cv } → O' = put O id x → Adv g O w g' O' (w.setRow (g.loc id) cs) → ObjOk π g' O' (w.setRow (g.loc id) cs) id) :
    ∃ g', Sim π fr w0 hw0 g' (put O id x) (w.setRow (g.loc id) cs) ∧ Adv g O w g' (put O id x) (w.setRow (g.loc id) cs) ∧ g'.cur id = cv ∧ g'.hw = put g.hw (g.loc id) m ∧ g'.loc = g.loc := by
  refine ⟨{ g with hw := put g.hw (g.loc id) m, cur := put g.cur id cv }, ?_⟩
  generalize hg' : ({ g with hw := put g.hw (g.loc id) m, cur := put g.cur id cv } : G) = g'
  have e1 : g'.hw = put g.hw (g.loc id) m := by rw [← hg']
  have e2 : g'.loc = g.loc := by rw [← hg']
  have e3 : g'.cur = put g.cur id cv := by rw [← hg']
  have e4 : g'.own = g.own := by rw [← hg']
  have ha : Adv g O w g' (put O id x) (w.setRow (g.loc id) cs) := by
    refine ⟨fun b => ?_, fun b o ho => ?_, fun i e k hv => ?_, fun i h1 h2 => ?_, fun i τ l hi => ?_⟩
    · rw [e1]
      by_cases hbb : b = g.loc id
      · subst hbb; rw [put_same]; exact hm
      · rw [put_ne _ _ hbb]; exact Nat.le_refl _
    · by_cases hbb : b = g.loc id
      · subst hbb
        rw [cell_setRow_same w _ o arr cs T (0, 0) hb, hkeep o ho, cell_of_row w _ o arr T (0, 0) hb]
      · exact cell_setRow_other w _ cs ⟨b, o, none⟩ hbb
    · by_cases hi : i = id
      · subst hi
        rcases hx with ⟨us, us', h, rfl⟩ | ⟨e', k', h, rfl⟩
        · rw [h] at hv; cases hv
        · rw [h] at hv; cases hv; exact ⟨k + 1, put_same _ _ _, by omega, fun hh => by omega⟩
      · exact ⟨k, by rw [put_ne _ _ hi]; exact hv, Nat.le_refl _, fun _ => by rw [e3, put_ne _ _ hi]⟩
    · by_cases hi : i = id
      · subst hi
        rcases hx with ⟨us, us', h, rfl⟩ | ⟨e', k', h, rfl⟩
        · rw [put_same, e2]; exact ⟨by simp, by simp, rfl⟩
        · exact absurd h (h2 _ _)
      · rw [put_ne _ _ hi, e2]
        exact ⟨h1, h2, rfl⟩
    · have hi' : i ≠ id := by
        rintro rfl
        rcases hx with ⟨us, us', h, rfl⟩ | ⟨e', k', h, rfl⟩ <;> (rw [h] at hi; cases hi)
      rw [put_ne _ _ hi', e3, put_ne _ _ hi']
      exact ⟨hi, rfl⟩
  have hlt := (hs.own id _ hO ((hown _).2 rfl)).2
  refine ⟨hs.step hπ ha (fun i => i = id) ⟨rfl, rfl, rfl⟩ (by simp) (fun b hb' hn => ?_) (fun i hi => ⟨put_ne _ _ hi, by rw [e2], by rw [e3]; exact put_ne _ _ hi, fun b => by rw [e4]⟩) (fun b hb' => ?_) ?_ ?_, ha, by rw [e3]; exact put_same _ _ _, e1, e2⟩
  · have : b ≠ g.loc id := fun e => hn id rfl hO ((hown b).2 e)
    exact ⟨setRow_other w _ _ _ this, by rw [e1, put_ne _ _ this]⟩
  · have hne : b ≠ g.loc id := by rintro rfl; exact hb' cs T (0, 0) (setRow_heap w _ arr cs T (0, 0) hb)
    rw [e1, put_ne _ _ hne]
    exact hs.hwz b (hb'.congr (setRow_other w _ _ _ hne))
  · rintro i rfl _
    refine ⟨hok g' _ hg'.symm rfl ha, fun b hb' => ?_⟩
    rw [e4] at hb'
    have := hs.own i b hO hb'
    exact ⟨.inr ⟨hO, hb'⟩, fun hnc => by rw [(hown b).1 hb'] at hnc; exact hnc cs T (0, 0) (setRow_heap w _ arr cs T (0, 0) hb)⟩
  · rintro i i' b rfl rfl _ _ _ _; rfl
/-- A row that has no room of its own: a name for a slice. -/
theorem Sim.alias (hπ : π.Ok) (hs : Sim π fr w0 hw0 g O w) (id : Nat) (e : DTy) (k : Nat) (hid : (O id = .none) ∨ ∃ j, O id = .vec e j ∧ k = j + 1) (A : Option Addr) (n : Nat) :
    ∃ g', Sim π fr w0 hw0 g' (put O id (.vec e k)) w ∧ Adv g O w g' (put O id (.vec e k)) w ∧ g'.cur id = .slice A n n ∧ g'.hw = g.hw := by
  refine ⟨{ g with cur := put g.cur id (.slice A n n), own := put g.own id (fun _ => False) }, ?_⟩
  generalize hg' : ({ g with cur := put g.cur id (.slice A n n), own := put g.own id (fun _ => False) } : G) = g'
  have e1 : g'.hw = g.hw := by rw [← hg']
  have e2 : g'.loc = g.loc := by rw [← hg']
  have e3 : g'.cur = put g.cur id (.slice A n n) := by rw [← hg']
  have e4 : g'.own = put g.own id (fun _ => False) := by rw [← hg']
  have ha : Adv g O w g' (put O id (.vec e k)) w := by
    refine ⟨fun b => by rw [e1]; exact Nat.le_refl _, fun b o ho => rfl, fun i e' k' hv => ?_, fun i h1 h2 => ?_, fun i τ l hi => ?_⟩
    · by_cases hi : i = id
      · subst hi
        rcases hid with hid | ⟨j, hid, rfl⟩
        · rw [hid] at hv; cases hv
        · rw [hid] at hv; cases hv; exact ⟨_, put_same _ _ _, by omega, fun hh => by omega⟩
      · exact ⟨k', by rw [put_ne _ _ hi]; exact hv, Nat.le_refl _, fun _ => by rw [e3, put_ne _ _ hi]⟩
    · have hi : i ≠ id := by
        rintro rfl
        rcases hid with hid | ⟨j, hid, rfl⟩
        · exact h1 hid
        · exact h2 _ _ hid
      rw [put_ne _ _ hi, e2]
      exact ⟨h1, h2, rfl⟩
    · have hi' : i ≠ id := by
        rintro rfl
        rcases hid with hid | ⟨j, hid, rfl⟩ <;> (rw [hid] at hi; cases hi)
      rw [put_ne _ _ hi', e3, put_ne _ _ hi']
      exact ⟨hi, rfl⟩
  refine ⟨hs.step hπ ha (fun i => i = id) ⟨rfl, rfl, rfl⟩ (Nat.le_refl _) (fun b hb' hn => ⟨rfl, by rw [e1]⟩) (fun i hi => ⟨put_ne _ _ hi, by rw [e2], by rw [e3]; exact put_ne _ _ hi, fun b => by rw [e4, put_ne _ _ hi]⟩) (fun b hb' => by rw [e1]; exact hs.hwz b hb') ?_ ?_, ha, by rw [e3]; exact put_same _ _ _, e1⟩
  · rintro i rfl _
    refine ⟨?_, fun b hb' => by rw [e4, put_same] at hb'; exact hb'.elim⟩
    unfold ObjOk
    rw [put_same]
    exact ⟨A, n, n, by rw [e3]; exact put_same _ _ _, Nat.le_refl _, .inl ⟨rfl, fun b hb => by rw [e4, put_same] at hb; exact hb⟩⟩
  · rintro i i' b rfl rfl _ _ _ _; rfl
theorem opStore_run (hπ : π.Ok) (hty : ∀ t r, E.ty t = some r → TyOk P E t r) (hs : Sim π fr w0 hw0 g O w) {t : Nat} {a x : AVal} {va vx : Value} {out : Out} (h : opStore E t a x O = some out) (ha : ARel g O w a va) (hx : ARel g O w x vx) :
    WriteO out (fun u O' => u = .und ∧ ∃ w', (Instr.storeAt t va vx).run P w = .ok () w' ∧ Goes π fr w0 hw0 g O O' w w' .und undef) O := by
  unfold opStore at h
  obtain ⟨r, hr, h1⟩ := bind_someO h
  clear h
  cases a with
  | ptr id off =>
    dsimp only at h1
    obtain ⟨us, hus, h2⟩ := bind_someO h1
    obtain ⟨ds, hds, h3⟩ := bind_someO h2
    obtain ⟨hb, h4⟩ := ifO_some h3
    simp only [Bool.and_eq_true] at hb
    have b1 := Nat.le_of_ble_eq_true hb.1
    have b2 := Nat.eq_of_beq_eq_true hb.2
    have hbox := boxOf_some hus
    obtain ⟨o1, o2, arr, T, o3, o4, o5⟩ := hs.box hbox
    obtain ⟨hc, hleaf⟩ := cells_rel hds hx
    have hl1 := hc.length
    have hl2 := o4.length
    have hone := allR_one hc hleaf
    cases ha with
    | ptr hn hv =>
      refine retW_write h4 fun _ => ⟨rfl, w.setRow (g.loc id) (arr.toList.take off ++ vx.cells.toList ++ arr.toList.drop (off + vx.cells.toList.length)).toArray, ?_, ?_⟩
      · have hst := run_storeCells_at P (g.loc id) off T vx.cells.toList 0 arr w o3 (by simp only [Array.length_toList] at hl1 hl2 ⊢; omega) hone
        simp only [Nat.add_zero] at hst
        simp only [Instr.storeAt, Instr.sureAddr, Sem.run_bind, Sem.run_pure, Result.andThen_ok, storeVar, (hty t r hr).sizeOf]
        rw [if_neg (by simp only [Array.length_toList] at hl1; simp only [ne_eq, Decidable.not_not]; omega)]
        exact hst
      · obtain ⟨g', s1, a1, _, _, _⟩ := hs.write hπ (id := id) (cs := (arr.toList.take off ++ vx.cells.toList ++ arr.toList.drop (off + vx.cells.toList.length)).toArray) (by rw [hbox]; simp) o1 o3 0 (by omega) (by intro j hj; omega) (.box (replaceAt us off ds)) .nilFunc (.inl ⟨us, _, hbox, rfl⟩) (by
          intro g' O' hg hO' ha
          unfold ObjOk
          rw [hO', put_same]
          subst hg
          dsimp only
          refine ⟨o1, put_same _ _ _, _, T, setRow_heap w _ arr _ T (0, 0) o3, ?_, ?_⟩
          · exact (o4.replace hc off).mono (fun _ _ => ARel.mono (by rw [← hO']; exact ha))
          · intro v hv
            simp only [List.mem_append] at hv
            rcases hv with (hv | hv) | hv
            · exact o5 v (List.mem_of_mem_take hv)
            · exact hone v hv
            · exact o5 v (List.mem_of_mem_drop hv))
        exact ⟨g', .und, s1, a1⟩
  | _ => cases h1
theorem zeros_list (z : Array Value) (n : Nat) : ((Array.range (n * z.size)).map (fun i => z[i % z.size]!)).toList = (List.replicate n z.toList).flatten := by
  rw [Array.toList_map, Array.toList_range]
  induction n with
  | zero => simp
  | succ n ih =>
    rw [Nat.add_mul, Nat.one_mul, List.range_add, List.map_append, ih, List.replicate_succ', List.flatten_append]
    congr 1
    simp only [List.map_map, List.flatten_cons, List.flatten_nil, List.append_nil]
    apply List.ext_getElem?
    intro i
    simp only [List.getElem?_map, Function.comp_def]
    by_cases h : i < z.size
    · rw [List.getElem?_range h]
      simp only [Option.map_some]
      have : (n * z.size + i) % z.size = i := by rw [Nat.add_comm, Nat.add_mul_mod_self_right]; exact Nat.mod_eq_of_lt h
      rw [this]
      simp [h]
    · rw [List.getElem?_eq_none (by simp; omega), List.getElem?_eq_none (by simp; omega)]
      rfl
theorem zeros_rel {us : List AVal} {vs : List Value} (h : AllR (ARel g O w) us vs) (n : Nat) : AllR (ARel g O w) (List.replicate n us).flatten (List.replicate n vs).flatten := by
  induction n with
  | zero => trivial
  | succ n ih => rw [List.replicate_succ, List.replicate_succ, List.flatten_cons, List.flatten_cons]; exact h.append ih
theorem mapM_get {α β : Type} {f : α → Option β} : ∀ {l : List α} {r : List β}, l.mapM f = some r → r.length = l.length ∧ ∀ i (d : β) (x : α), l[i]? = some x → f x = some (r.getD i d) := by
  intro l
  induction l with
  | nil => intro r h; simp at h; subst h; exact ⟨rfl, fun i d x hx => by simp at hx⟩
  | cons a l ih =>
    intro r h
    simp only [List.mapM_cons, Option.bind_eq_bind, Option.pure_def] at h
    obtain ⟨b, hb, h⟩ := bind_some h
    obtain ⟨r', hr', h⟩ := bind_some h
    cases h
    obtain ⟨h1, h2⟩ := ih hr'
    refine ⟨by simp [h1], fun i d x hx => ?_⟩
    cases i with
    | zero => simp at hx; subst hx; simpa using hb
    | succ i => simpa using h2 i d x (by simpa using hx)
theorem opLit_run (hπ : π.Ok) (hty : ∀ t r, E.ty t = some r → TyOk P E t r) (hs : Sim π fr w0 hw0 g O w) {t n : Nat} {ps : List (Nat × AVal)} {qs : Array (Nat × Value)} {out : Out} (h : opLit E t n ps = some out) (hp : PartsR g O w ps qs.toList) :
    WriteO out (Makes P (Instr.buildSlice t n qs) π fr w0 hw0 g O w) O := by
  unfold opLit at h
  obtain ⟨p, hp1, h1⟩ := bind_someO h
  obtain ⟨us, hus, h2⟩ := bind_someO h1
  obtain ⟨l, hl, h3⟩ := bind_someO h2
  obtain ⟨hb, h4⟩ := ifO_some h3
  clear h h1 h2 h3
  have hb := Nat.le_of_ble_eq_true hb
  obtain ⟨e, q, τ⟩ := p
  dsimp only at hus hl hb h4
  obtain ⟨hu, hq, hd⟩ := elemOf_some hty hp1
  dsimp only at hu hq hd
  obtain ⟨i, z, i1, i2, i3, i4, i5, i6, i7⟩ := hq.info
  obtain ⟨hlen, hget⟩ := mapM_get hl
  have hsz := (hq.dty _ hd).1
  have hzr : AllR (ARel g O w) q.zero z.cells.toList := by rw [← i5]; exact ofCells_rel _
  -- the cells
  obtain ⟨zc, hz1, hz2⟩ : ∃ zc : Array Value, (if n * q.size = 0 then zc = #[] else zc = z.cells) ∧ AllR (ARel g O w) (List.replicate n q.zero).flatten ((Array.range (n * q.size)).map (fun i => zc[i % zc.size]!)).toList := by
    by_cases h0 : n * q.size = 0
    · refine ⟨#[], by rw [if_pos h0], ?_⟩
      have h00 : n = 0 ∨ q.size = 0 := Nat.mul_eq_zero.1 h0
      have : (List.replicate n q.zero).flatten = [] := by
        rcases h00 with rfl | h
        · rfl
        · have : q.zero = [] := by rw [← i5]; apply List.eq_nil_of_length_eq_zero; rw [List.length_map, Array.length_toList]; omega
          rw [this]; simp
      rw [this, h0]
      simp [AllR]
    · refine ⟨z.cells, by rw [if_neg h0], ?_⟩
      rw [← i6, zeros_list]
      exact zeros_rel hzr n
  obtain ⟨cells', hf, hall⟩ := fill_rel (place := fun i => some (i * q.size, q.size)) hus hp hz2
  have run : (Instr.buildSlice t n qs).run P w = .ok (.slice (some ⟨w.heap.size, 0, none⟩) n n) (w.alloc (.cells cells' e)) := by
    have hbig : ¬ (n * q.size > 2 ^ 24) := by omega
    simp only [Instr.buildSlice, Sem.run_bind, run_under hu, Result.andThen_ok, hq.sizeOf, hbig, if_false]
    by_cases h0 : n * q.size = 0
    · rw [if_pos h0] at hz1
      subst hz1
      simp only [h0, if_true, Sem.run_bind, Sem.run_pure, Result.andThen_ok]
      rw [h0] at hf
      simp only [hf, Sem.run_bind, newRow, run_newObj, Result.andThen_ok, Sem.run_pure, World.alloc_eq]
    · rw [if_neg h0] at hz1
      subst hz1
      simp only [h0, if_false, Sem.run_bind, zeroValue, typeInfo, run_program, i1, i4, Sem.run_pure, Result.andThen_ok]
      simp only [hf, Sem.run_bind, newRow, run_newObj, Result.andThen_ok, Sem.run_pure, World.alloc_eq]
  refine retV_write h4 ⟨_, _, run, ?_⟩
  obtain ⟨s1, a1⟩ := hs.new hπ (w' := w.alloc (.cells cells' e)) ⟨rfl, rfl, rfl⟩ (by simp) (fun b hb => Below.heap_alloc _ _ _ hb) ⟨_, _, _, heap_new w _⟩ (n * q.size)
  refine ⟨_, ?_, s1, a1⟩
  rw [List.length_range] at hlen
  have hel : ∀ j, j < l.length → ∃ es, CRel (put g.hw w.heap.size (n * q.size)) (w.alloc (.cells cells' e)) τ (l.getD j τ.dflt) es ∧ Holds (w.alloc (.cells cells' e)) w.heap.size (0 + j * τ.size) es := by
    intro j hj
    have h5 := hget j τ.dflt j (by rw [List.getElem?_range (by omega)])
    have h6 := asm_whole h5 ((hall.drop (j * q.size)).take q.size)
    refine ⟨_, h6.mono a1.hw a1.cell, ?_⟩
    have := row_holds (w := w.alloc (.cells cells' e)) (heap_alloc_new w _) (j * q.size) q.size
    rw [hsz, Nat.zero_add]
    exact this
  obtain ⟨cs, hc1, hc2⟩ := CRels.of l 0 hel
  have := slice_mk (c := l.length) hc1 hc2 (by show 0 + l.length * τ.size ≤ put g.hw w.heap.size (n * q.size) w.heap.size; rw [put_same, hlen, hsz]; omega) (Nat.le_refl _)
  rw [hlen] at this
  have h7 := ARel.lit (O := O) (g := { g with hw := put g.hw w.heap.size (n * q.size) }) (w := w.alloc (.cells cells' e)) (l := l) (A := some ⟨w.heap.size, 0, none⟩) (by rw [hlen]; exact this)
  rw [hlen] at h7
  exact h7
/-- The first cells of a slice. -/
theorem first_run {τ : DTy} {l : List τ.den} {A : Option Addr} {c : Nat} (h : CRel g.hw w (.slice τ) l [.slice A l.length c]) :
    ∃ cs, CRels g.hw w τ l cs ∧ ∀ (k : Nat) (w' : World), w'.heap = w.heap → (Builtin.firstCells τ.size l.length (.slice A l.length k)).run P w' = .ok cs.toArray w' := by
  obtain ⟨A0, c0, h1, h2, h3⟩ := slice_open h
  cases h1
  rcases h3 with rfl | ⟨b, o, cs, rfl, h4, h5, h6⟩
  · refine ⟨[], .nil, fun k w' hw => ?_⟩
    cases A with
    | none => rfl
    | some a => simp [Builtin.firstCells, loadCells, loadCellsFrom]
  · refine ⟨cs, h4, fun k w' hw => ?_⟩
    simp only [Builtin.firstCells]
    refine loadCells_holds (fun j hj => ?_) h4.length.symm
    have := h5 j hj
    simp only [World.cell?, hw] at this ⊢
    exact this
/-- An append into its own row's room. -/
theorem append_room {t ty e : Nat} {i : TypeInfo} {τ : DTy} (ht : P.underlying t = some (.slice e)) (hi : P.info? e = some i) (hsz : i.size = τ.size)
    {n m c c' : Nat} {A' : Option Addr} {ns : List Value} (hnew : ∀ (k : Nat), (Builtin.firstCells τ.size m (.slice A' m k)).run P w = .ok ns.toArray w) (hns : ns.length = m * τ.size) (h1 : ∀ v ∈ ns, v.oneCell' = true)
    (hroom : n + m ≤ c) {b : Nat} {arr : Array Value} {T : TypeId} (hb : w.heap[b]? = some (.cells arr T (0, 0))) (harr : arr.size = c * τ.size) :
    (Builtin.append_ #[t, t] ty #[.slice (some ⟨b, 0, none⟩) n c, .slice A' m c']).run P w = .ok (.slice (some ⟨b, 0, none⟩) (n + m) c) (w.setRow b (arr.toList.take (n * τ.size) ++ ns ++ arr.toList.drop (n * τ.size + ns.length)).toArray) := by
  have hfit : n * τ.size + 0 + ns.length ≤ arr.size := by
    rw [hns, harr, Nat.add_zero, ← Nat.add_mul]
    exact Nat.mul_le_mul_right _ hroom
  have hst := run_storeCells_at P b (n * τ.size) T ns 0 arr w hb hfit h1
  simp only [Nat.add_zero] at hst
  have hn := hnew c'
  rw [← hsz] at hn hst ⊢
  simp [Builtin.append_, run_underlying ht, sizeOf, typeInfo, hi, Builtin.lenOf, hroom, hn, addr_add, hst]
theorem append_same {t ty e : Nat} {i : TypeInfo} (ht : P.underlying t = some (.slice e)) (hi : P.info? e = some i) {n c c' : Nat} {A A' : Option Addr} (hroom : n ≤ c) :
    (Builtin.append_ #[t, t] ty #[.slice A n c, .slice A' 0 c']).run P w = .ok (.slice A n c) w := by
  have hn : ∀ k, (Builtin.firstCells i.size 0 (.slice A' 0 k)).run P w = .ok #[] w := by
    intro k
    cases A' with
    | none => rfl
    | some a => simp [Builtin.firstCells, loadCells, loadCellsFrom]
  cases A with
  | none => simp [Builtin.append_, run_underlying ht, sizeOf, typeInfo, hi, Builtin.lenOf, hroom, hn]
  | some a => simp [Builtin.append_, run_underlying ht, sizeOf, typeInfo, hi, Builtin.lenOf, hroom, hn, storeCells]
theorem append_more {t ty e : Nat} {i : TypeInfo} {z : Value} {size : Nat} (ht : P.underlying t = some (.slice e)) (hi : P.info? e = some i) (hz : i.zero = some z) (hsz : i.size = size) (hzs : z.cells.size = size)
    {n m c c' : Nat} {A A' : Option Addr} {os ns : List Value} (hold : ∀ (k : Nat) (w' : World), w'.heap = w.heap → (Builtin.firstCells size n (.slice A n k)).run P w' = .ok os.toArray w')
    (hnew : ∀ (k : Nat) (w' : World), w'.heap = w.heap → (Builtin.firstCells size m (.slice A' m k)).run P w' = .ok ns.toArray w') (ho : os.length = n * size) (hns : ns.length = m * size)
    (hg : c < n + m) (h63 : n + m < 4611686018427387904) (hb : (n + m) * i.bytes ≤ 140737488355328) :
    ∃ (c2 : Nat) (arr : Array Value), n + m ≤ c2 ∧ arr.size = c2 * size ∧ arr.toList.take ((n + m) * size) = os ++ ns ∧
      (Builtin.append_ #[t, t] ty #[.slice A n c, .slice A' m c']).run P w = .ok (.slice (some ⟨w.heap.size, 0, none⟩) (n + m) c2) (w.drew.alloc (.cells arr e)) := by
  have hn : ¬ (n + m ≤ c) := by omega
  have h63' : ¬ (9223372036854775807 < ((n : Int) + (m : Int))) := by omega
  have h48' : ¬ (281474976710656 < Builtin.nextslicecap (n + m) c * i.bytes) := by have := growslice_fits hg hb; omega
  have hf := hnew c' w.drew rfl
  have hfo := hold c w.drew rfl
  have hge := grownCap_ge w (n + m) c e
  rw [← hsz] at hf hfo
  refine ⟨grownCap w (n + m) c e, os.toArray ++ ns.toArray ++ Builtin.zeroCells z.cells (grownCap w (n + m) c e - (n + m)), hge, ?_, ?_, ?_⟩
  · simp only [Array.size_append, List.size_toArray, size_zeroCells, hzs, ho, hns, ← Nat.add_mul]
    congr 1
    omega
  · simp only [Array.toList_append, List.append_assoc]
    rw [← List.append_assoc]
    have : (n + m) * size = (os ++ ns).length := by rw [List.length_append, ho, hns, Nat.add_mul]
    rw [this]
    exact List.take_left
  · simp [Builtin.append_, run_underlying ht, sizeOf, typeInfo, zeroValue, hi, hz, Builtin.lenOf, hn, h63', h48', Question.forced, hf, hfo, newRow, grownCap]
    congr 2
    apply Array.ext'
    simp [List.append_assoc]
end
end Go.Proofs.Ytgmjbnglenmlpaa.Ab
end
section
/- The abstract machine: append and make. -/
set_option linter.unusedVariables false
set_option linter.unusedSimpArgs false
namespace Go.Proofs.Ytgmjbnglenmlpaa.Ab
open Go Go.RowKit
section
variable {P : Program} {E : Env} {π : Par} {fr : Nat → Prop} {w0 : World} {hw0 : Nat → Nat} {g : G} {O : Nat → AObj} {w : World}
theorem crels_one {τ : DTy} {l : List τ.den} {cs : List Value} (h : CRels g.hw w τ l cs) : ∀ v ∈ cs, v.oneCell' = true := by
  induction h with
  | nil => intro v hv; cases hv
  | cons hx _ ih =>
    intro v hv
    rcases List.mem_append.1 hv with hv | hv
    · exact allR_one (dcells_rel (O := fun _ => .none) hx) (dcells_leaf _ _) v hv
    · exact ih v hv
theorem growOk_some {n m b : Nat} (h : growOk n m b = true) : (n + m) * b ≤ 140737488355328 ∧ n + m < 4611686018427387904 := by
  unfold growOk at h
  simpa using h
/-- A row in a new block. -/
theorem vec_born (hπ : π.Ok) (hs : Sim π fr w0 hw0 g O w) {τ : DTy} {l : List τ.den} {id k : Nat} (hid : O id = .none ∨ ∃ e j, O id = .vec e j ∧ AObj.vec τ k = .vec e (j + 1)) {w' : World} {arr : Array Value} {T : TypeId} {c : Nat}
    (hos : w'.os = w.os ∧ w'.tape = w.tape ∧ w'.output = w.output) (hsz : w'.heap.size = w.heap.size + 1) (hb : ∀ b, b < w.heap.size → w'.heap[b]? = w.heap[b]?) (hnew : w'.heap[w.heap.size]? = some (.cells arr T (0, 0)))
    (harr : arr.size = c * τ.size) (hlc : l.length ≤ c) (hcs : CRels g.hw w τ l (arr.toList.take (l.length * τ.size))) :
    Goes π fr w0 hw0 g O (put O id (.vec τ k)) w w' (.vs id k τ l) (.slice (some ⟨w.heap.size, 0, none⟩) l.length c) := by
  obtain ⟨g', s1, a1, e1, e2, e3, e4⟩ := hs.born hπ hos hsz hb ⟨_, _, _, hnew⟩ id (.vec τ k) hid (l.length * τ.size) (.slice (some ⟨w.heap.size, 0, none⟩) l.length c) (by
    intro g' O' hg hO' ha
    unfold ObjOk
    rw [hO', put_same]
    subst hg
    unfold VecOk
    dsimp only
    rw [put_same, put_same, put_same, put_same]
    exact ⟨_, _, _, rfl, hlc, .inr ⟨arr, T, rfl, hnew, harr, rfl, fun b => Iff.rfl⟩⟩)
  refine ⟨g', .vs (k := k) ?_ (put_same _ _ _) (Nat.le_refl _) (fun _ => e2), s1, a1⟩
  refine slice_mk (hcs.mono a1.hw a1.cell) ?_ (by rw [e3]; omega) hlc
  have := row_holds hnew 0 (l.length * τ.size)
  rwa [List.drop_zero] at this
theorem nextVer_some {τ : DTy} {x : AObj} {k : Nat} (h : nextVer τ x = some k) : (x = .none) ∨ ∃ e j, x = .vec e j ∧ AObj.vec τ k = .vec e (j + 1) := by
  unfold nextVer at h
  split at h
  · exact .inl rfl
  · obtain ⟨h1, h2⟩ := ifB_some h
    obtain rfl := of_decide_eq_true h1
    cases h2
    exact .inr ⟨_, _, rfl, rfl⟩
  · cases h
/-- Append onto a slice that has no room that is known of. -/
theorem append_fresh (hπ : π.Ok) (hs : Sim π fr w0 hw0 g O w) {t ty e : Nat} {i : TypeInfo} {z : Value} {τ : DTy} (ht : P.underlying t = some (.slice e)) (hi : P.info? e = some i) (hz : i.zero = some z) (hsz : i.size = τ.size) (hzs : z.cells.size = τ.size)
    {l m : List τ.den} {A : Option Addr} {vm : Value} (hl : CRel g.hw w (.slice τ) l [.slice A l.length l.length]) (hm : CRel g.hw w (.slice τ) m [vm]) (hg : growOk l.length m.length i.bytes = true)
    {d k : Nat} (hk : nextVer τ (O d) = some k) : Makes P (Builtin.append_ #[t, t] ty #[.slice A l.length l.length, vm]) π fr w0 hw0 g O w (.vs d k τ (l ++ m)) (put O d (.vec τ k)) := by
  obtain ⟨g1, g2⟩ := growOk_some hg
  obtain ⟨A', c', rfl, _⟩ := slice_open hm
  have hid := nextVer_some hk
  by_cases hm0 : m = []
  · subst hm0
    rw [List.append_nil]
    refine ⟨_, _, append_same ht hi (Nat.le_refl _), ?_⟩
    obtain ⟨g', s1, a1, e1, e2⟩ := hs.alias hπ d τ k (by
      rcases hid with h | ⟨e', j, h, h'⟩
      · exact .inl h
      · cases h'; exact .inr ⟨j, h, rfl⟩) A l.length
    exact ⟨g', .vs (k := k) (hl.mono a1.hw a1.cell) (put_same _ _ _) (Nat.le_refl _) (fun _ => e1), s1, a1⟩
  · have hpos : 0 < m.length := List.length_pos_iff.2 hm0
    obtain ⟨os, ho1, ho2⟩ := first_run (P := P) hl
    obtain ⟨ns, hn1, hn2⟩ := first_run (P := P) hm
    obtain ⟨c2, arr, h1, h2, h3, h4⟩ := append_more (P := P) (w := w) (ty := ty) (c := l.length) (c' := c') ht hi hz hsz hzs ho2 hn2 ho1.length hn1.length (by omega) g2 g1
    refine ⟨_, _, h4, ?_⟩
    have := vec_born hπ hs (τ := τ) (l := l ++ m) (id := d) (k := k) hid (w' := w.drew.alloc (.cells arr e)) (arr := arr) (T := e) (c := c2) ⟨rfl, rfl, rfl⟩ (by simp) (fun b hb => Below.heap_alloc w.drew _ _ hb) (heap_alloc_new w.drew _) h2 (by rw [List.length_append]; exact h1)
      (by rw [List.length_append, h3]; exact ho1.append hn1)
    rw [List.length_append] at this
    exact this
/-- Append onto a row that is known. -/
theorem append_own (hπ : π.Ok) (hs : Sim π fr w0 hw0 g O w) {t ty e : Nat} {i : TypeInfo} {z : Value} {τ : DTy} (ht : P.underlying t = some (.slice e)) (hi : P.info? e = some i) (hz : i.zero = some z) (hsz : i.size = τ.size) (hzs : z.cells.size = τ.size)
    {l m : List τ.den} {vl vm : Value} {id k : Nat} (hO : O id = .vec τ k) (hv : ARel g O w (.vs id k τ l) vl) (hm : CRel g.hw w (.slice τ) m [vm]) (hg : growOk l.length m.length i.bytes = true) :
    Makes P (Builtin.append_ #[t, t] ty #[vl, vm]) π fr w0 hw0 g O w (.vs id (k + 1) τ (l ++ m)) (put O id (.vec τ (k + 1))) := by
  obtain ⟨g1, g2⟩ := growOk_some hg
  obtain ⟨A', c', rfl, _⟩ := slice_open hm
  cases hv with
  | vs hl hO2 hk hc =>
  rw [hO] at hO2
  cases hO2
  have hcur := hc rfl
  have hobj := hs.obj id
  unfold ObjOk at hobj
  rw [hO] at hobj
  obtain ⟨A, n, c, h1, h2, h3⟩ := hobj
  rw [hcur] at h1
  subst h1
  obtain ⟨A0, c0, q1, q2, q3⟩ := slice_open hl
  cases q1
  have nid : O id ≠ .none := by rw [hO]; simp
  have hid : O id = .none ∨ ∃ e j, O id = .vec e j ∧ AObj.vec τ (k + 1) = .vec e (j + 1) := .inr ⟨τ, k, hO, rfl⟩
  by_cases hroom : l.length + m.length ≤ c
  · rcases h3 with ⟨h3, h4⟩ | ⟨arr, T, h3, h4, h5, h6, h7⟩
    · -- no room: nothing is appended
      have hm0 : m = [] := List.eq_nil_of_length_eq_zero (by omega)
      subst hm0
      rw [List.append_nil]
      refine ⟨_, _, append_same ht hi q2, ?_⟩
      subst h3
      obtain ⟨g', s1, a1, e1, e2⟩ := hs.alias hπ id τ (k + 1) (.inr ⟨k, hO, rfl⟩) A l.length
      exact ⟨g', .vs (k := k + 1) (hl.mono a1.hw a1.cell) (put_same _ _ _) (Nat.le_refl _) (fun _ => e1), s1, a1⟩
    · subst h3
      obtain ⟨ns, hn1, hn2⟩ := first_run (P := P) hm
      have hnl := hn1.length
      refine ⟨_, _, append_room ht hi hsz (fun k => hn2 k w rfl) hnl (crels_one hn1) hroom h4 h5, ?_⟩
      have hfit : l.length * τ.size + ns.length ≤ arr.size := by
        rw [hnl, h5, ← Nat.add_mul]
        exact Nat.mul_le_mul_right _ hroom
      have hsum : (l.length + m.length) * τ.size = l.length * τ.size + ns.length := by rw [hnl, Nat.add_mul]
      generalize hcs : (arr.toList.take (l.length * τ.size) ++ ns ++ arr.toList.drop (l.length * τ.size + ns.length)).toArray = cs
      have hcsl : cs.toList = arr.toList.take (l.length * τ.size) ++ ns ++ arr.toList.drop (l.length * τ.size + ns.length) := by rw [← hcs]
      have hcsz : cs.size = c * τ.size := by
        rw [← Array.length_toList, hcsl, ← h5]
        simp only [List.length_append, List.length_take, List.length_drop, Array.length_toList]
        omega
      obtain ⟨g', s1, a1, e1, e2, e3⟩ := hs.write hπ (id := id) (cs := cs) nid h7 h4 ((l.length + m.length) * τ.size) (by rw [h6, hsum]; omega) (by
        intro j hj
        rw [h6] at hj
        rw [← Array.getElem?_toList, ← Array.getElem?_toList, hcsl, List.append_assoc, List.getElem?_append_left (by simp; omega), List.getElem?_take_of_lt hj]) (.vec τ (k + 1)) (.slice (some ⟨g.loc id, 0, none⟩) (l.length + m.length) c) (.inr ⟨τ, k, hO, rfl⟩) (by
        intro g' O' hg' hO' ha
        unfold ObjOk
        rw [hO', put_same]
        subst hg'
        unfold VecOk
        dsimp only
        rw [put_same, put_same]
        exact ⟨_, _, _, rfl, hroom, .inr ⟨cs, T, rfl, setRow_heap w _ arr cs T (0, 0) h4, hcsz, rfl, h7⟩⟩)
      refine ⟨g', .vs (k := k + 1) ?_ (put_same _ _ _) (Nat.le_refl _) (fun _ => e1), s1, a1⟩
      have hls : CRels g.hw w τ l (arr.toList.take (l.length * τ.size)) := by
        rcases q3 with rfl | ⟨b, o, os, hb, q4, q5, q6⟩
        · simp; exact .nil
        · cases hb
          have : os = arr.toList.take (l.length * τ.size) := by
            apply List.ext_getElem?
            intro j
            have hol := q4.length
            by_cases hj : j < os.length
            · have := q5 j hj
              rw [Nat.zero_add, cell_of_row w _ j arr T (0, 0) h4] at this
              rw [List.getElem?_take_of_lt (by omega), ← this, Array.getElem?_toList]
            · rw [List.getElem?_eq_none (by omega), List.getElem?_eq_none (by simp; omega)]
          rw [← this]
          exact q4
      have hall := (hls.append hn1).mono a1.hw a1.cell
      have := slice_mk (b := g.loc id) (o := 0) (c := c) hall ?_ (by rw [e2, put_same, List.length_append]; omega) (by rw [List.length_append]; exact hroom)
      · rw [List.length_append] at this
        exact this
      · have hh := row_holds (setRow_heap w _ arr cs T (0, 0) h4) 0 (l.length * τ.size + ns.length)
        rw [List.drop_zero, hcsl] at hh
        rw [List.take_left' (by have hal : arr.toList.length = arr.size := Array.length_toList; rw [List.length_append, List.length_take, hal]; omega)] at hh
        exact hh
  · obtain ⟨os, ho1, ho2⟩ := first_run (P := P) hl
    obtain ⟨ns, hn1, hn2⟩ := first_run (P := P) hm
    obtain ⟨c2, arr, r1, r2, r3, r4⟩ := append_more (P := P) (w := w) (ty := ty) (c := c) (c' := c') ht hi hz hsz hzs ho2 hn2 ho1.length hn1.length (by omega) g2 g1
    refine ⟨_, _, r4, ?_⟩
    have := vec_born hπ hs (τ := τ) (l := l ++ m) (id := id) (k := k + 1) hid (w' := w.drew.alloc (.cells arr e)) (arr := arr) (T := e) (c := c2) ⟨rfl, rfl, rfl⟩ (by simp) (fun b hb => Below.heap_alloc w.drew _ _ hb) (heap_alloc_new w.drew _) r2 (by rw [List.length_append]; exact r1)
      (by rw [List.length_append, r3]; exact ho1.append hn1)
    rw [List.length_append] at this
    exact this
theorem opAppend_run (hπ : π.Ok) (hty : ∀ t r, E.ty t = some r → TyOk P E t r) (hs : Sim π fr w0 hw0 g O w) {t t' d ty : Nat} {s x : AVal} {vs vx : Value} {out : Out} (h : opAppend E t t' d s x O = some out) (ha : ARel g O w s vs) (hx : ARel g O w x vx) :
    WriteO out (Makes P (Builtin.append_ #[t, t'] ty #[vs, vx]) π fr w0 hw0 g O w) O := by
  unfold opAppend at h
  obtain ⟨htt, h1⟩ := ifO_some h
  obtain rfl := Nat.eq_of_beq_eq_true htt
  obtain ⟨p, hp, h2⟩ := bind_someO h1
  obtain ⟨m, hm, h3⟩ := bind_someO h2
  clear h h1 h2
  obtain ⟨hu, hq, hd⟩ := elemOf_some hty hp
  obtain ⟨i, z, i1, i2, i3, i4, i5, i6, i7⟩ := hq.info
  have hsz := (hq.dty _ hd).1
  have hmr := as_slc hm hx
  cases s with
  | vs id ver τ' l =>
    dsimp only at h3
    obtain ⟨l', hl', h4⟩ := bind_someO h3
    obtain ⟨e, rfl⟩ := castD_some hl'
    cases e
    obtain ⟨hv, h5⟩ := ifO_some h4
    have hO : O id = .vec p.2.2 ver := by
      unfold vecIs at hv
      cases hOO : O id <;> rw [hOO] at hv <;> simp at hv
      obtain ⟨rfl, h⟩ := hv
      rw [h]
    refine retW_write h5 fun hc => ?_
    exact append_own hπ hs hu i1 i4 (by omega) (by omega) hO ha hmr (by rw [i3]; exact hc _ (List.mem_singleton.2 rfl))
  | nils =>
    dsimp only at h3
    obtain ⟨k, hk, h4⟩ := bind_someO h3
    cases ha
    refine retW_write h4 fun hc => ?_
    have := append_fresh (P := P) hπ hs (ty := ty) hu i1 i4 (τ := p.2.2) (by omega) (by omega) (l := []) (m := m) (A := none) slice_nil hmr (by rw [i3]; exact hc _ (List.mem_singleton.2 rfl)) hk
    exact this
  | lit τ' l =>
    dsimp only at h3
    obtain ⟨l', hl', h4⟩ := bind_someO h3
    obtain ⟨e, rfl⟩ := castD_some hl'
    cases e
    obtain ⟨k, hk, h5⟩ := bind_someO h4
    cases ha with
    | lit hc0 =>
    refine retW_write h5 fun hc => ?_
    exact append_fresh (P := P) hπ hs (ty := ty) hu i1 i4 (by omega) (by omega) hc0 hmr (by rw [i3]; exact hc _ (List.mem_singleton.2 rfl)) hk
  | _ => cases h3
theorem wrap_small {n : Int} (h0 : 0 ≤ n) (h : n < 4611686018427387904) : IntKind.i64.wrap n = n := by
  simp [IntKind.wrap, IntKind.bits, IntKind.signed]
  omega
theorem rep_crels {τ : DTy} {x : τ.den} {cs : List Value} (h : CRel g.hw w τ x cs) (n : Nat) : CRels g.hw w τ (List.replicate n x) (List.replicate n cs).flatten := by
  induction n with
  | zero => exact .nil
  | succ n ih => rw [List.replicate_succ, List.replicate_succ, List.flatten_cons]; exact .cons h ih
theorem take_rep {α : Type} (l : List α) (n m : Nat) (h : n ≤ m) : (List.replicate m l).flatten.take (n * l.length) = (List.replicate n l).flatten := by
  obtain ⟨k, rfl⟩ := Nat.exists_eq_add_of_le h
  rw [← List.replicate_append_replicate, List.flatten_append, List.take_left' (by simp)]
theorem opMake_run (hπ : π.Ok) (hty : ∀ t r, E.ty t = some r → TyOk P E t r) (hs : Sim π fr w0 hw0 g O w) {t d : Nat} {l c : AVal} {vl vc : Value} {out : Out} (h : opMake E t d l c O = some out) (hl : ARel g O w l vl) (hc : ARel g O w c vc) :
    WriteO out (Makes P (Instr.makeSlice t vl vc) π fr w0 hw0 g O w) O := by
  unfold opMake at h
  obtain ⟨p, hp, h1⟩ := bind_someO h
  obtain ⟨n, hn, h2⟩ := bind_someO h1
  obtain ⟨m, hm, h3⟩ := bind_someO h2
  obtain ⟨x, hx, h4⟩ := bind_someO h3
  obtain ⟨k, hk, h5⟩ := bind_someO h4
  clear h h1 h2 h3 h4
  obtain ⟨hu, hq, hd⟩ := elemOf_some hty hp
  obtain ⟨i, z, i1, i2, i3, i4, i5, i6, i7⟩ := hq.info
  have hsz := (hq.dty _ hd).1
  obtain ⟨kl, rfl⟩ := bound_run hn hl
  obtain ⟨kc, rfl⟩ := bound_run hm hc
  refine retW_write h5 fun hcs => ?_
  simp at hcs
  obtain ⟨c1, c2, c3, c4⟩ := hcs
  have hzr : AllR (ARel g O w) p.2.1.zero z.cells.toList := by rw [← i5]; exact ofCells_rel _
  have hzc := asm_whole hx hzr
  have w1 := wrap_small c1 (by omega)
  have w2 := wrap_small (show 0 ≤ m by omega) c4
  have big : ¬ (↑i.bytes * m > (2 : Int) ^ 48) := by
    rw [i3, Int.mul_comm]
    have : (2 : Int) ^ 48 = 281474976710656 := by decide
    omega
  have hz0 : z.cells.size = p.2.1.size := i6
  obtain ⟨zc, hz1, hz2⟩ : ∃ zc : Array Value, (if m.toNat * p.2.1.size = 0 then zc = #[] else zc = z.cells) ∧ ((Array.range (m.toNat * p.2.1.size)).map (fun i => zc[i % zc.size]!)).toList = (List.replicate m.toNat z.cells.toList).flatten := by
    by_cases h0 : m.toNat * p.2.1.size = 0
    · refine ⟨#[], by rw [if_pos h0], ?_⟩
      rw [h0]
      rcases Nat.mul_eq_zero.1 h0 with h | h
      · rw [h]; simp
      · have : z.cells.toList = [] := List.eq_nil_of_length_eq_zero (by rw [Array.length_toList]; omega)
        rw [this]; simp
    · exact ⟨z.cells, by rw [if_neg h0], by rw [← hz0, zeros_list]⟩
  generalize hcells : (Array.range (m.toNat * p.2.1.size)).map (fun i => zc[i % zc.size]!) = cells at hz2
  have run : (Instr.makeSlice t (.int kl n) (.int kc m)).run P w = .ok (.slice (some ⟨w.heap.size, 0, none⟩) n.toNat m.toNat) (w.alloc (.cells cells p.1)) := by
    have e1 : ¬ (n < 0) := by omega
    have e2 : ¬ (m < 0) := by omega
    have e3 : ¬ (m < n) := by omega
    simp only [Instr.makeSlice, Sem.run_bind, run_under hu, Result.andThen_ok, asInt, asIntOf, Sem.run_pure, typeInfo, run_program, i1, w1, w2]
    have e4 : ((decide (m < 0) || decide (↑i.bytes * m > 2 ^ 48)) || decide (n < 0) || decide (n > m)) = false := by
      simp only [Bool.or_eq_false_iff, decide_eq_false_iff_not]
      exact ⟨⟨⟨e2, big⟩, e1⟩, by omega⟩
    simp only [e4, Bool.false_eq_true, if_false, Sem.run_bind, run_askRoom, Result.andThen_ok, hq.sizeOf]
    by_cases h0 : m.toNat * p.2.1.size = 0
    · rw [if_pos h0] at hz1
      subst hz1
      simp only [h0, if_true, Sem.run_bind, Sem.run_pure, Result.andThen_ok]
      rw [h0] at hcells
      simp only [hcells, Sem.run_bind, newRow, run_newObj, Result.andThen_ok, Sem.run_pure, World.alloc_eq]
    · rw [if_neg h0] at hz1
      subst hz1
      simp only [h0, if_false, Sem.run_bind, zeroValue, typeInfo, run_program, i1, i4, Sem.run_pure, Result.andThen_ok, hcells]
      simp only [newRow, run_newObj, Sem.run_bind, Result.andThen_ok, Sem.run_pure, World.alloc_eq]
  refine ⟨_, _, run, ?_⟩
  have hzl : z.cells.toList.length = p.2.2.size := by rw [Array.length_toList]; omega
  have hlen : (List.replicate n.toNat x).length = n.toNat := List.length_replicate
  have := vec_born hπ hs (τ := p.2.2) (l := List.replicate n.toNat x) (id := d) (k := k) (nextVer_some hk) (w' := w.alloc (.cells cells p.1)) (arr := cells) (T := p.1) (c := m.toNat) ⟨rfl, rfl, rfl⟩ (by simp) (fun b hb => Below.heap_alloc w _ _ hb) (heap_alloc_new w _)
    (by rw [← Array.length_toList, hz2]; simp [hzl]) (by rw [hlen]; omega)
    (by rw [hlen, hz2, ← hzl, take_rep _ _ _ (by omega)]; exact rep_crels hzc _)
  rw [hlen] at this
  exact this
end
end Go.Proofs.Ytgmjbnglenmlpaa.Ab
end
section
/- The abstract machine: an operation does what it says. -/
set_option linter.unusedVariables false
set_option linter.unusedSimpArgs false
namespace Go.Proofs.Ytgmjbnglenmlpaa.Ab
open Go Go.RowKit
/-- What is owed of the calls that the table tells. -/
def CallOk (P : Program) (E : Env) (π : Par) : Prop := ∀ (f : Nat) (args : List AVal) (O : Nat → AObj) (d : Nat) (out : Out), E.call f args O d = some out →
  (∀ O' : Nat → AObj, (∀ i, i ∈ out.ws ∨ i ∈ out.rs → O' i = O i) → E.call f args O' d = some out) ∧
  (∀ (vs : Array Value) (w : World), (callFunc f vs).run P w = .ok (.enter f vs) w) ∧
  ∀ r, (∀ b, b ∈ out.conds → b = true) → out.val = some r → ∀ (fr : Nat → Prop) (w0 : World) (hw0 : Nat → Nat) (g : G) (w : World) (vs : Array Value), Sim π fr w0 hw0 g O w → AllR (ARel g O w) args vs.toList →
    Calls P f vs w (fun e w' => ∃ v, e = .returned v ∧ Goes π fr w0 hw0 g O (applyU out.ws (out.wrap r).2 O) w w' (out.wrap r).1 v)
/-- All that is owed of a table. -/
structure EnvOk (P : Program) (E : Env) (π : Par) : Prop where
  ty : ∀ t r, E.ty t = some r → TyOk P E t r
  call : CallOk P E π
  par : π.Ok
  bld : ∀ i z, P.info? E.bty = some i → i.zero = some z → ∀ w : World, π.bd (w.alloc (.cells z.cells E.bty)) w.heap.size (.slice none 0 0) []
section
variable {P : Program} {E : Env} {π : Par}
theorem map_eval {ρ ρ' : Operand → AVal} {xs : List Operand} (h : ∀ x ∈ xs, ρ' x = ρ x) : xs.map ρ' = xs.map ρ := List.map_congr_left h
theorem map_eval2 {ρ ρ' : Operand → AVal} {xs : List (Nat × Operand)} (h : ∀ x ∈ xs.map (·.2), ρ' x = ρ x) : (xs.map fun p => (p.1, ρ' p.2)) = xs.map fun p => (p.1, ρ p.2) :=
  List.map_congr_left fun p hp => by rw [h p.2 (List.mem_map.2 ⟨p, hp, rfl⟩)]
theorem opD_frame (hC : CallOk P E π) : (opD E).Frame := by
  intro o ρ ρ' O O' out h hρ hO
  obtain ⟨dst, op, ty, pos, after, guard⟩ := o
  have W : ∀ {cs : List Bool} {v : AVal} {id : Nat} {x : AObj}, retW cs v id x = some out → O' id = O id := by
    intro cs v id x h
    cases h
    exact hO id (.inl (by simp))
  unfold opD at h ⊢
  cases op with
  | move x => simp only [Op.operands] at hρ; dsimp only at h ⊢; rw [hρ x (by simp)]; exact h
  | assign x => simp only [Op.operands] at hρ; dsimp only at h ⊢; rw [hρ x (by simp)]; exact h
  | pick c a b => simp only [Op.operands] at hρ; dsimp only at h ⊢; rw [hρ c (by simp), hρ a (by simp), hρ b (by simp)]; exact h
  | alloc e =>
    dsimp only at h ⊢
    obtain ⟨d, hdst, h2⟩ := bind_someO h
    subst hdst
    clear h
    have h := h2
    clear h2
    have h0 := h
    unfold opAlloc at h
    obtain ⟨r, hr, h⟩ := bind_someO h
    obtain ⟨hn, h⟩ := ifO_some h
    have : O' d = O d := by cases hb : Nat.beq e E.bty <;> rw [hb] at h <;> exact W h
    show opAlloc E e d O' = _
    unfold opAlloc at h0 ⊢
    rw [this]
    exact h0
  | box e x =>
    simp only [Op.operands] at hρ
    dsimp only at h ⊢
    rw [hρ x (by simp)]
    obtain ⟨d, hdst, h2⟩ := bind_someO h
    subst hdst
    clear h
    have h := h2
    clear h2
    have h0 := h
    unfold opBox at h
    obtain ⟨r, hr, h⟩ := bind_someO h
    obtain ⟨hn, h⟩ := ifO_some h
    show opBox d (ρ x) O' = _
    unfold opBox at h0 ⊢
    rw [W h]
    exact h0
  | build t ps =>
    simp only [Op.operands] at hρ
    dsimp only at h ⊢
    rw [map_eval2 (ρ := ρ) (by intro x hx; exact hρ x (by simpa using hx))]
    exact h
  | buildSlice t n ps =>
    simp only [Op.operands] at hρ
    dsimp only at h ⊢
    rw [map_eval2 (ρ := ρ) (by intro x hx; exact hρ x (by simpa using hx))]
    exact h
  | load t a =>
    simp only [Op.operands] at hρ
    dsimp only at h ⊢
    rw [hρ a (by simp)]
    have h0 := h
    unfold opLoad at h
    obtain ⟨r, hr, h⟩ := bind_someO h
    cases ha : ρ a with
    | ptr id off =>
      rw [ha] at h h0
      dsimp only at h
      obtain ⟨cs, hcs, h⟩ := bind_someO h
      obtain ⟨_, h⟩ := ifO_some h
      have hid : O' id = O id := by
        cases hk : r.kind.agg with
        | true => rw [hk] at h; cases h; exact hO id (.inr (by simp))
        | false => rw [hk] at h; obtain ⟨_, h⟩ := ifO_some h; cases h; exact hO id (.inr (by simp))
      unfold opLoad at h0 ⊢
      dsimp only at h0 ⊢
      rw [hid]
      exact h0
    | cp τ x => rw [ha] at h0; exact h0
    | _ => rw [ha] at h; cases h
  | store t a x =>
    simp only [Op.operands] at hρ
    dsimp only at h ⊢
    rw [hρ a (by simp), hρ x (by simp)]
    have h0 := h
    unfold opStore at h
    obtain ⟨r, hr, h⟩ := bind_someO h
    cases ha : ρ a with
    | ptr id off =>
      rw [ha] at h h0
      dsimp only at h
      obtain ⟨cs, hcs, h⟩ := bind_someO h
      obtain ⟨ds, hds, h⟩ := bind_someO h
      obtain ⟨_, h⟩ := ifO_some h
      unfold opStore at h0 ⊢
      dsimp only at h0 ⊢
      rw [W h]
      exact h0
    | _ => rw [ha] at h; cases h
  | nilCheck x => simp only [Op.operands] at hρ; dsimp only at h ⊢; rw [hρ x (by simp)]; exact h
  | binOp op t x y u => simp only [Op.operands] at hρ; dsimp only at h ⊢; rw [hρ x (by simp), hρ y (by simp)]; exact h
  | unOp op t x => simp only [Op.operands] at hρ; dsimp only at h ⊢; rw [hρ x (by simp)]; exact h
  | convert s t x => simp only [Op.operands] at hρ; dsimp only at h ⊢; rw [hρ x (by simp)]; exact h
  | makeFunc fn first cap =>
    simp only [Op.operands] at hρ
    cases fn with
    | func f =>
      dsimp only at h ⊢
      rw [map_eval (ρ := ρ) (by intro x hx; exact hρ x (by simp; right; simpa using hx))]
      exact h
    | _ => cases h
  | makeSlice t l c =>
    simp only [Op.operands] at hρ
    dsimp only at h ⊢
    rw [hρ l (by simp), hρ c (by simp)]
    obtain ⟨d, hdst, h2⟩ := bind_someO h
    subst hdst
    clear h
    have h := h2
    clear h2
    have h0 := h
    unfold opMake at h
    obtain ⟨p, hp, h⟩ := bind_someO h
    obtain ⟨n, hn, h⟩ := bind_someO h
    obtain ⟨m, hm, h⟩ := bind_someO h
    obtain ⟨z, hz, h⟩ := bind_someO h
    obtain ⟨k, hk, h⟩ := bind_someO h
    show opMake E t d (ρ l) (ρ c) O' = _
    unfold opMake at h0 ⊢
    rw [W h]
    exact h0
  | slice t x lo hi mx =>
    simp only [Op.operands] at hρ
    cases mx with
    | some _ => cases h
    | none =>
      dsimp only at h ⊢
      rw [hρ x (by simp)]
      have e1 : lo.map ρ' = lo.map ρ := by cases lo with
        | none => rfl
        | some y => simp [hρ y (by simp)]
      have e2 : hi.map ρ' = hi.map ρ := by cases hi with
        | none => rfl
        | some y => simp [hρ y (by simp)]
      rw [e1, e2]
      exact h
  | fieldAddr s x f => simp only [Op.operands] at hρ; dsimp only at h ⊢; rw [hρ x (by simp)]; exact h
  | field s x f => simp only [Op.operands] at hρ; dsimp only at h ⊢; rw [hρ x (by simp)]; exact h
  | indexAddr t x i => simp only [Op.operands] at hρ; dsimp only at h ⊢; rw [hρ x (by simp), hρ i (by simp)]; exact h
  | index t x i => simp only [Op.operands] at hρ; dsimp only at h ⊢; rw [hρ x (by simp), hρ i (by simp)]; exact h
  | extract x i => simp only [Op.operands] at hρ; dsimp only at h ⊢; rw [hρ x (by simp)]; exact h
  | call c =>
    obtain ⟨callee, xs, ts⟩ := c
    simp only [Op.operands, Call.operands] at hρ
    cases callee with
    | invoke _ _ => cases h
    | value f =>
      dsimp only at h hρ ⊢
      rw [hρ f (by simp), map_eval (ρ := ρ) (by intro x hx; exact hρ x (by simp; right; simpa using hx))]
      unfold opCall at h ⊢
      split at h
      · exact (hC _ _ _ _ _ h).1 O' hO
      · cases h
    | builtin b =>
      dsimp only at h hρ ⊢
      rw [map_eval (ρ := ρ) (by intro x hx; exact hρ x (by simpa using hx))]
      unfold opBuiltin at h ⊢
      split at h
      · exact h
      · obtain ⟨d, hdst, h2⟩ := bind_someO h
        subst hdst
        clear h
        have h := h2
        clear h2
        have h0 := h
        rename_i s x t t' _ _
        show opAppend E t t' d s x O' = _
        unfold opAppend at h
        obtain ⟨_, h⟩ := ifO_some h
        obtain ⟨p, hp, h⟩ := bind_someO h
        obtain ⟨m, hm, h⟩ := bind_someO h
        cases s with
        | vs id ver τ' l =>
          dsimp only at h
          obtain ⟨l', _, h⟩ := bind_someO h
          obtain ⟨_, h⟩ := ifO_some h
          unfold opAppend at h0 ⊢
          dsimp only at h0 ⊢
          rw [W h]
          exact h0
        | nils =>
          dsimp only at h
          obtain ⟨k, _, h⟩ := bind_someO h
          unfold opAppend at h0 ⊢
          dsimp only at h0 ⊢
          rw [W h]
          exact h0
        | lit τ' l =>
          dsimp only at h
          obtain ⟨l', _, h⟩ := bind_someO h
          obtain ⟨k, _, h⟩ := bind_someO h
          unfold opAppend at h0 ⊢
          dsimp only at h0 ⊢
          rw [W h]
          exact h0
        | _ => cases h
      · exact h
      · exact h
      · cases h
  | _ => cases h
end
section
variable {P : Program} {E : Env} {π : Par} {fr : Nat → Prop} {w0 : World} {hw0 : Nat → Nat} {g : G} {O : Nat → AObj} {w : World} {F : Fence} {n : Nat}
theorem wpIn_val (hF : ∀ f, F.fn f) {o : Oper} {a : Act} {K : Act → World → Prop} {Q : Exit → Act → World → Prop} {v : Value} {w' : World} (hd : ∀ c, o.op ≠ .defer c) (h : (execOp a.eval o).run P w = .ok (.value v) w') (hK : K (a.put o.dst v) w') : o.wpIn F n P a w K Q := by
  refine ⟨fun f _ => hF f, ?_⟩
  rw [Oper.semAt_plain F a.eval o hd, h]
  exact hK
theorem wpIn_void (hF : ∀ f, F.fn f) {o : Oper} {a : Act} {K : Act → World → Prop} {Q : Exit → Act → World → Prop} {w' : World} (hd : ∀ c, o.op ≠ .defer c) (h : (execOp a.eval o).run P w = .ok .skip w') (hK : K (a.put o.dst undef) w') : o.wpIn F n P a w K Q := by
  refine ⟨fun f _ => hF f, ?_⟩
  rw [Oper.semAt_plain F a.eval o hd, h]
  exact hK
theorem Goes.same (hs : Sim π fr w0 hw0 g O w) {u : AVal} {v : Value} (h : ARel g O w u v) : Goes π fr w0 hw0 g O O w w u v := ⟨g, h, hs, Adv.refl g O w⟩
/-- What an operation owes what follows. -/
def OpOk (P : Program) (F : Fence) (n : Nat) (π : Par) (fr : Nat → Prop) (w0 : World) (hw0 : Nat → Nat) (g : G) (O : Nat → AObj) (w : World) (a : Act) (o : Oper) (out : Out) : Prop :=
  ∀ r, (∀ b, b ∈ out.conds → b = true) → out.val = some r → ∀ (K : Act → World → Prop) (Q : Exit → Act → World → Prop),
    (∀ v w', Goes π fr w0 hw0 g O (applyU out.ws (out.wrap r).2 O) w w' (out.wrap r).1 v → K (a.put o.dst v) w') → o.wpIn F n P a w K Q
theorem ok_pure (hF : ∀ f, F.fn f) (hs : Sim π fr w0 hw0 g O w) {a : Act} {o : Oper} {out : Out} {S : Sem Value} (hd : ∀ c, o.op ≠ .defer c) (he : execOp a.eval o = do pure (.value (← S))) (h : PureO out (Reads P S g O w)) : OpOk P F n π fr w0 hw0 g O w a o out := by
  obtain ⟨cs, u, rs, rfl, hu⟩ := h
  intro r hc _ K Q hK
  obtain ⟨v, hv, hr⟩ := hu hc
  refine wpIn_val hF hd (v := v) (w' := w) ?_ (hK v w (Goes.same hs hr))
  rw [he, Sem.run_bind, hv]
  rfl
theorem ok_make (hF : ∀ f, F.fn f) {a : Act} {o : Oper} {out : Out} {S : Sem Value} (hd : ∀ c, o.op ≠ .defer c) (he : execOp a.eval o = do pure (.value (← S))) (h : WriteO out (Makes P S π fr w0 hw0 g O w) O) : OpOk P F n π fr w0 hw0 g O w a o out := by
  obtain ⟨cs, u, x, ws, rs, rfl, hu⟩ := h
  intro r hc _ K Q hK
  obtain ⟨v, w', hv, hg⟩ := hu hc
  refine wpIn_val hF hd (v := v) (w' := w') ?_ (hK v w' hg)
  rw [he, Sem.run_bind, hv]
  rfl
theorem optR {ρa : Operand → AVal} {ρ : Operand → Value} (hr : ∀ x, ARel g O w (ρa x) (ρ x)) (x : Option Operand) : OptR g O w (x.map ρa) (x.map ρ) := by
  cases x with
  | none => trivial
  | some y => exact hr y
theorem allR_map {ρa : Operand → AVal} {ρ : Operand → Value} (hr : ∀ x, ARel g O w (ρa x) (ρ x)) (xs : List Operand) : AllR (ARel g O w) (xs.map ρa) (xs.map ρ) := by
  induction xs with
  | nil => trivial
  | cons x xs ih => exact ⟨hr x, ih⟩
end
end Go.Proofs.Ytgmjbnglenmlpaa.Ab
end
section
/- The abstract machine: every operation; regions, in the order of the text and in any. -/
set_option linter.unusedVariables false
set_option linter.unusedSimpArgs false
namespace Go.Proofs.Ytgmjbnglenmlpaa.Ab
open Go Go.RowKit
section
variable {P : Program} {E : Env} {π : Par} {fr : Nat → Prop} {w0 : World} {hw0 : Nat → Nat} {g : G} {w : World} {F : Fence} {n : Nat}
/-- A fence that lets all through. -/
def WideF (F : Fence) : Prop := F = Fence.wide ∨ ∃ l, F = Fence.wide.inRound l
theorem WideF.fn (h : WideF F) (f : Nat) : F.fn f := by rcases h with rfl | ⟨l, rfl⟩ <;> trivial
theorem WideF.depth (h : WideF F) : F.depth = none := by rcases h with rfl | ⟨l, rfl⟩ <;> rfl
theorem WideF.calls (h : WideF F) {f : Nat} {args : Array Value} {R : Ending → World → Prop} (hc : Calls P f args w R) : CallsIn F n P f args w R := by
  rcases h with rfl | ⟨l, rfl⟩
  · exact callsIn_wide.2 hc
  · exact (callsIn_wide (n := n)).2 hc
theorem op_sound (hE : EnvOk P E π) (hW : WideF F) {σ : St} {a : Act} {o : Oper} {out : Out} (h : opD E o σ.eval σ.objs = some out) (hs : Sim π fr w0 hw0 g σ.objs w)
    (hr : ∀ x, ARel g σ.objs w (σ.eval x) (a.eval x)) : OpOk P F n π fr w0 hw0 g σ.objs w a o out := by
  have hF := hW.fn
  obtain ⟨dst, op, ty, pos, after, guard⟩ := o
  unfold opD at h
  cases op with
  | move x => exact ok_pure hF hs (S := pure (a.eval x)) (by simp) rfl (retV_pure h ⟨_, rfl, hr x⟩)
  | assign x => exact ok_pure hF hs (S := pure (a.eval x)) (by simp) rfl (retV_pure h ⟨_, rfl, hr x⟩)
  | pick c x y => exact ok_pure hF hs (S := do pure (if ← asBool (a.eval c) then a.eval x else a.eval y)) (by simp) (by simp [execOp]) (opPick_run h (hr c) (hr x) (hr y))
  | alloc e =>
    dsimp only at h
    obtain ⟨d, hd, h⟩ := bind_someO h
    exact ok_make hF (by simp) rfl (opAlloc_run hE.par hE.ty hE.bld hs h)
  | box e x =>
    dsimp only at h
    obtain ⟨d, hd, h⟩ := bind_someO h
    exact ok_make hF (by simp) rfl (opBox_run hE.par hs h (hr x))
  | build t ps =>
    dsimp only at h
    refine ok_pure hF hs (S := Instr.build t (ps.map fun (i, x) => (i, a.eval x))) (by simp) (by simp only [execOp]) (opBuild_run hE.ty h ?_)
    rw [Array.toList_map]
    exact parts_rel hr ps.toList
  | buildSlice t n ps =>
    dsimp only at h
    refine ok_make hF (S := Instr.buildSlice t n (ps.map fun (i, x) => (i, a.eval x))) (by simp) (by simp only [execOp]) (opLit_run hE.par hE.ty hs h ?_)
    rw [Array.toList_map]
    exact parts_rel hr ps.toList
  | load t x => exact ok_pure hF hs (by simp) rfl (opLoad_run hE.ty hs h (hr x))
  | store t x y =>
    obtain ⟨cs, u, ob, ws, rs, rfl, hu⟩ := opStore_run hE.par hE.ty hs h (hr x) (hr y)
    intro r hc _ K Q hK
    obtain ⟨rfl, w', hrun, hg⟩ := hu hc
    refine wpIn_void hF (w' := w') (by simp) ?_ (hK undef w' hg)
    show (do Instr.storeAt t (a.eval x) (a.eval y); pure Next.skip : Sem Next).run P w = _
    rw [Sem.run_bind, hrun]
    rfl
  | nilCheck x =>
    obtain ⟨b, hv, cs, u, rs, rfl, hu⟩ := opNil_run h (hr x)
    intro r hc _ K Q hK
    refine wpIn_val hF (v := a.eval x) (w' := w) (by simp) ?_ (hK _ w (Goes.same hs (hu hc)))
    rcases hv with hv | ⟨f, vs, hv⟩ <;> simp [execOp, hv]
  | binOp op t x y u => exact ok_pure hF hs (S := do eqGuard op t x y (a.eval x) (a.eval y); binOp op t (a.eval x) (a.eval y)) (by simp) rfl (binA_run hE.ty h (hr x) (hr y) x y)
  | unOp op t x => exact ok_pure hF hs (by simp) rfl (unA_run h (hr x))
  | convert s t x => exact ok_pure hF hs (by simp) rfl (convA_run hE.ty h (hr x))
  | makeFunc fn first cap =>
    cases fn with
    | func f =>
      dsimp only at h
      obtain ⟨h0, h⟩ := ifO_some h
      have h0 := Nat.eq_of_beq_eq_true h0
      have hf : first = #[] := by
        apply Array.eq_empty_of_size_eq_zero h0
      subst hf
      refine ok_pure hF hs (S := Instr.makeFunc (.func f) ((#[] : Array Operand).map a.eval) (cap.map a.eval)) (by simp) rfl (retV_pure h ⟨.func (.func f) #[] (cap.map a.eval), by simp [Instr.makeFunc], ?_⟩)
      obtain ⟨h1, h2⟩ := allR_idx' (vs := cap.map a.eval) (by rw [Array.toList_map]; exact allR_map hr cap.toList)
      exact .fn h1 h2
    | _ => cases h
  | makeSlice t l c =>
    dsimp only at h
    obtain ⟨d, hd, h⟩ := bind_someO h
    exact ok_make hF (by simp) rfl (opMake_run hE.par hE.ty hs h (hr l) (hr c))
  | slice t x lo hi mx =>
    cases mx with
    | some _ => cases h
    | none => exact ok_pure hF hs (by simp) rfl (opSlice_run hE.ty h (hr x) (optR hr lo) (optR hr hi))
  | fieldAddr s x f => exact ok_pure hF hs (by simp) rfl (opFieldAddr_run hE.ty h (hr x))
  | field s x f => exact ok_pure hF hs (by simp) rfl (opField_run hE.ty h (hr x))
  | indexAddr t x i => exact ok_pure hF hs (by simp) rfl (opIndexAddr_run hE.ty h (hr x) (hr i))
  | index t x i => exact ok_pure hF hs (by simp) rfl (opIndex_run hE.ty h (hr x) (hr i))
  | extract x i => exact ok_pure hF hs (by simp) rfl (opExtract_run h (hr x))
  | call c =>
    obtain ⟨callee, xs, ts⟩ := c
    cases callee with
    | invoke _ _ => cases h
    | value f =>
      dsimp only at h
      unfold opCall at h
      split at h
      · rename_i q cap d hf
        obtain ⟨h1, h2, h3⟩ := hE.call _ _ _ _ _ h
        have hfr := hr f
        rw [hf] at hfr
        generalize hfv : a.eval f = fv at hfr
        cases hfr with
        | fn hl hh =>
          rename_i vs
          intro r hc hv K Q hK
          have hargs : AllR (ARel g σ.objs w) (xs.toList.map σ.eval ++ cap) (xs.map a.eval ++ vs).toList := by
            rw [Array.toList_append, Array.toList_map]
            exact (allR_map hr xs.toList).append (allR_idx hl hh)
          have h4 := h3 r hc hv fr w0 hw0 g w (xs.map a.eval ++ vs) hs hargs
          refine ⟨fun f _ => hF f, ?_⟩
          rw [Oper.semAt_plain F _ _ (by simp)]
          have hrun : (execOp a.eval ⟨some d, .call ⟨.value f, xs, ts⟩, ty, pos, after, guard⟩).run P w = .ok (.enter q (xs.map a.eval ++ vs)) w := by
            simp only [execOp, resolve, hfv, Deferred.ofValue, Sem.run_bind, Sem.run_pure, Result.andThen_ok, invoke, Array.empty_append]
            exact h2 _ _
          rw [hrun, Oper.uponIn_enter]
          refine ⟨fun hh => (by rw [hW.depth] at hh; cases hh), (hW.calls h4).mono ?_⟩
          rintro e w' ⟨v, rfl, hg⟩
          exact hK v w' hg
      · cases h
    | builtin b =>
      dsimp only at h
      have hb : ∀ (S : Sem Value) (k : Builtin), (∀ cs, builtin k ts ty cs (xs.map a.eval) = (do pure (.value (← S)))) → execOp a.eval ⟨dst, .call ⟨.builtin k, xs, ts⟩, ty, pos, after, guard⟩ = (do pure (.value (← S))) := by
        intro S k hk
        simp only [execOp, resolve, pure_bind, invoke]
        exact hk _
      have hl := allR_map hr xs.toList
      unfold opBuiltin at h
      split at h
      · rename_i x t hx ht
        rw [hx] at hl
        have hts : ts = #[t] := by apply Array.toList_inj.1; rw [ht]
        generalize hq : xs.toList.map a.eval = ys at hl
        match ys, hl with
        | [vx], ⟨hv, _⟩ =>
          have hvx : xs.map a.eval = #[vx] := by apply Array.toList_inj.1; rw [Array.toList_map, hq]
          exact ok_pure hF hs (by simp) (hb (Builtin.len_ #[t] ty #[vx]) .len (fun cs => by rw [hvx, hts]; rfl)) (opLen_run hE.ty h hv)
      · rename_i s x t t' hx ht
        rw [hx] at hl
        obtain ⟨d, hd, h⟩ := bind_someO h
        have hts : ts = #[t, t'] := by apply Array.toList_inj.1; rw [ht]
        generalize hq : xs.toList.map a.eval = ys at hl
        match ys, hl with
        | [vs, vx], ⟨hv, hw, _⟩ =>
          have hvx : xs.map a.eval = #[vs, vx] := by apply Array.toList_inj.1; rw [Array.toList_map, hq]
          exact ok_make hF (by simp) (hb (Builtin.append_ #[t, t'] ty #[vs, vx]) .append (fun cs => by rw [hvx, hts]; rfl)) (opAppend_run hE.par hE.ty hs h hv hw)
      · exact ok_pure hF hs (by simp) (hb (Builtin.min_ ts ty (xs.map a.eval)) .min (fun cs => rfl)) (opMinMax_run h (vs := xs.map a.eval) (by rw [Array.toList_map]; exact hl) ts ty)
      · exact ok_pure hF hs (by simp) (hb (Builtin.max_ ts ty (xs.map a.eval)) .max (fun cs => rfl)) (opMinMax_run h (vs := xs.map a.eval) (by rw [Array.toList_map]; exact hl) ts ty)
      · cases h
  | _ => cases h
end
end Go.Proofs.Ytgmjbnglenmlpaa.Ab
end
section
/- The abstract machine: regions do what they say. -/
set_option linter.unusedVariables false
set_option linter.unusedSimpArgs false
namespace Go.Proofs.Ytgmjbnglenmlpaa.Ab
open Go Go.RowKit
/-- What never turns doesn't. -/
structure Mono (g : G) (w : World) (g' : G) (w' : World) : Prop where
  hw : ∀ b, g.hw b ≤ g'.hw b
  cell : ∀ b o, o < g.hw b → w'.cell? ⟨b, o, none⟩ = w.cell? ⟨b, o, none⟩
theorem Mono.refl (g : G) (w : World) : Mono g w g w := ⟨fun _ => Nat.le_refl _, fun _ _ _ => rfl⟩
theorem Mono.trans {g1 g2 g3 : G} {w1 w2 w3 : World} (h : Mono g1 w1 g2 w2) (k : Mono g2 w2 g3 w3) : Mono g1 w1 g3 w3 :=
  ⟨fun b => Nat.le_trans (h.hw b) (k.hw b), fun b o ho => (k.cell b o (Nat.lt_of_lt_of_le ho (h.hw b))).trans (h.cell b o ho)⟩
theorem Adv.toMono {g g' : G} {O O' : Nat → AObj} {w w' : World} (h : Adv g O w g' O' w') : Mono g w g' w' := ⟨h.hw, h.cell⟩
/-- The frame bears the state's slots. -/
structure FrR (nt : Nat) (g : G) (σ : St) (a : Act) (w : World) : Prop where
  size : a.tmps.size = nt
  tmps : ∀ t, ARel g σ.objs w (σ.tmps t) (a.tmps.getD t undef)
theorem FrR.eval {nt : Nat} {g : G} {σ : St} {a : Act} {w : World} (h : FrR nt g σ a w) (x : Operand) : ARel g σ.objs w (σ.eval x) (a.eval x) := by
  cases x with
  | tmp t => exact h.tmps t
  | const v => exact ofLit_rel v
  | global b => exact .junk
  | func f => exact .fn (by simp) (fun i hi => by simp at hi)
theorem put_getD (a : Act) (d : Option Nat) (v : Value) (t : Nat) (hd : ∀ e, d = some e → e < a.tmps.size) : (a.put d v).tmps.getD t undef = putO (fun t => a.tmps.getD t undef) d v t := by
  cases d with
  | none => rfl
  | some e =>
    have he := hd e rfl
    unfold putO Act.put
    dsimp only
    by_cases h : t = e
    · subst h
      rw [put_same]
      simp [Array.getD, he]
    · rw [put_ne _ _ h]
      simp only [Array.getD_eq_getD_getElem?]
      rw [Array.getElem?_setIfInBounds_ne (fun hh => h hh.symm)]
theorem FrR.put {nt : Nat} {g g' : G} {σ : St} {O' : Nat → AObj} {a : Act} {w w' : World} (h : FrR nt g σ a w) (ha : Adv g σ.objs w g' O' w') {d : Option Nat} {u : AVal} {v : Value} (hd : ∀ e, d = some e → e < nt) (hr : ARel g' O' w' u v) :
    FrR nt g' ⟨putO σ.tmps d u, O'⟩ (a.put d v) w' := by
  refine ⟨by cases d <;> simp [Act.put, h.size], fun t => ?_⟩
  rw [put_getD a d v t (by rw [h.size]; exact hd)]
  dsimp only
  cases d with
  | none => exact (h.tmps t).mono ha
  | some e =>
    unfold putO
    dsimp only
    by_cases ht : t = e
    · subst ht; rw [put_same, put_same]; exact hr
    · rw [put_ne _ _ ht, put_ne _ _ ht]; exact (h.tmps t).mono ha
/-- Slots that are there, and none that must stay. -/
def dstOk (nt : Nat) (fx : Nat → Bool) (ops : Array Oper) : Bool := ops.all fun o => match o.dst with
  | some d => Nat.blt d nt && !(fx d)
  | none => true
theorem dstOk_spec {nt : Nat} {fx : Nat → Bool} {ops : Array Oper} (h : dstOk nt fx ops = true) {i : Nat} {o : Oper} (ho : ops[i]? = some o) : ∀ e, o.dst = some e → e < nt ∧ fx e = false := by
  intro e he
  have := Array.all_eq_true_iff_forall_mem.1 h o (Array.mem_of_getElem? ho)
  rw [he] at this
  simpa using this
section
variable {P : Program} {E : Env} {π : Par} {fr : Nat → Prop} {w0 : World} {hw0 : Nat → Nat} {F : Fence} {n : Nat} {nt : Nat} {fx : Nat → Bool}
/-- What stays of an activation. -/
structure Stay (fx : Nat → Bool) (a a' : Act) : Prop where
  defers : a'.defers = a.defers
  tmps : ∀ t, fx t = true → a'.tmps.getD t undef = a.tmps.getD t undef
theorem Stay.refl (fx : Nat → Bool) (a : Act) : Stay fx a a := ⟨rfl, fun _ _ => rfl⟩
theorem Stay.trans {fx : Nat → Bool} {a b c : Act} (h : Stay fx a b) (k : Stay fx b c) : Stay fx a c := ⟨k.defers.trans h.defers, fun t ht => (k.tmps t ht).trans (h.tmps t ht)⟩
/-- Where a step may go. -/
def Next1 (π : Par) (fr : Nat → Prop) (w0 : World) (hw0 : Nat → Nat) (nt : Nat) (fx : Nat → Bool) (g : G) (a : Act) (w : World) (σ : St) (K : Act → World → Prop) : Prop :=
  ∀ g' a' w', Sim π fr w0 hw0 g' σ.objs w' → FrR nt g' σ a' w' → Mono g w g' w' → Stay fx a a' → K a' w'
theorem put_stay {nt : Nat} {fx : Nat → Bool} {a : Act} {d : Option Nat} (v : Value) (hs : a.tmps.size = nt) (hd : ∀ e, d = some e → e < nt ∧ fx e = false) : Stay fx a (a.put d v) := by
  refine ⟨by cases d <;> rfl, fun t ht => ?_⟩
  rw [put_getD a d v t (by rw [hs]; exact fun e he => (hd e he).1)]
  cases d with
  | none => rfl
  | some e =>
    have : t ≠ e := by rintro rfl; rw [(hd t rfl).2] at ht; cases ht
    exact put_ne (fun t => a.tmps.getD t undef) v this
theorem wanted_rel {ops : Array Oper} {o : Oper} {g : G} {σ : St} {a : Act} {w : World} (h : FrR nt g σ a w) {b : Bool} (hw : wantedA ops o σ = some b) : Region.wanted o (yielded ops a.tmps) = b := by
  unfold wantedA at hw
  unfold Region.wanted
  cases hg : o.guard with
  | none => rw [hg] at hw; cases hw; rfl
  | some p =>
    obtain ⟨j, want⟩ := p
    rw [hg] at hw
    dsimp only at hw ⊢
    unfold yieldA at hw
    unfold yielded
    cases ht : (ops[j]?).bind (·.dst) with
    | none =>
      rw [ht] at hw
      cases hw
      simp [ht]
    | some t =>
      rw [ht] at hw
      dsimp only at hw
      have hr := h.tmps t
      rw [Array.getD_eq_getD_getElem?] at hr
      cases hs : σ.tmps t with
      | d τ x =>
        rw [hs] at hw hr
        cases τ with
        | bool =>
          dsimp only at hw
          have e := arel_bool hr
          have e2 : a.tmps[t]? = some (.bool x) := by
            cases hq : a.tmps[t]? with
            | none => rw [hq] at e; cases e
            | some v => rw [hq] at e; simp at e; rw [e]
          rw [Option.bind_some, e2]
          cases hw
          cases want <;> cases x <;> rfl
        | _ => cases hw
      | und =>
        rw [hs] at hw hr
        cases hw
        have e : a.tmps[t]?.getD undef = undef := by
          generalize hq : a.tmps[t]?.getD undef = q at hr
          cases hr
          rfl
        cases hq : a.tmps[t]? with
        | none => rw [Option.bind_some, hq]; rfl
        | some v =>
          rw [hq] at e
          simp at e
          rw [Option.bind_some, hq, e]
          rfl
      | _ => rw [hs] at hw; cases hw
theorem step_sound (hE : EnvOk P E π) (hW : WideF F) {ops : Array Oper} {o : Oper} {i : Nat} {σ σ1 : St} {ws rs : List Nat} (h : Step (opD E) ops o σ σ1 ws rs) (hi : ops[i]? = some o) (hd : dstOk nt fx ops = true)
    {g : G} {a : Act} {w : World} (hs : Sim π fr w0 hw0 g σ.objs w) (hr : FrR nt g σ a w) (K : Act → World → Prop) (Q : Exit → Act → World → Prop) (hK : Next1 π fr w0 hw0 nt fx g a w σ1 K) : wpOpIn F n P ops Q i K a w := by
  unfold wpOpIn
  rw [hi]
  dsimp only
  have hdo := dstOk_spec hd hi
  cases h with
  | go hw hop hc hv =>
    rename_i out r
    rw [wanted_rel hr hw, if_pos rfl]
    refine op_sound hE hW hop hs (fun x => hr.eval x) r hc hv K Q ?_
    rintro v w' ⟨g', hv', hs', ha'⟩
    exact hK g' _ w' hs' (hr.put ha' (fun e he => (hdo e he).1) hv') ha'.toMono (put_stay _ hr.size hdo)
  | no hw =>
    rw [wanted_rel hr hw, if_neg (by simp)]
    refine ⟨fun f _ => hW.fn f, ?_⟩
    exact hK g _ w hs (hr.put (Adv.refl g σ.objs w) (fun e he => (hdo e he).1) .und) (Mono.refl g w) (put_stay _ hr.size hdo)
theorem run_sound (hE : EnvOk P E π) (hW : WideF F) {ops : Array Oper} (hd : dstOk nt fx ops = true) (Q : Exit → Act → World → Prop) {l : List Oper} {σ σ' : St} {log : List (List Nat × List Nat)} (h : Run (opD E) ops l σ σ' log) :
    ∀ (idx : Nat), ops.toList.drop idx = l → ∀ (g : G) (a : Act) (w : World), Sim π fr w0 hw0 g σ.objs w → FrR nt g σ a w → Next1 π fr w0 hw0 nt fx g a w σ' (Q .normal) → wpOpsIn F n P ops Q ((List.range ops.size).drop idx) a w := by
  induction h with
  | nil =>
    rename_i σ
    intro idx hl g a w hs hr hQ
    have : ops.size ≤ idx := by
      have := congrArg List.length hl
      simp at this
      omega
    rw [List.drop_eq_nil_of_le (by simpa using this)]
    exact hQ g a w hs hr (Mono.refl g w) (Stay.refl fx a)
  | cons hst hk ih =>
    rename_i o l σ σ1 σ2 ws rs log
    intro idx hl g a w hs hr hQ
    have hlt : idx < ops.size := by
      have := congrArg List.length hl
      simp at this
      omega
    have ho : ops[idx]? = some o := by
      have := congrArg (fun l => l[0]?) hl
      simpa using this
    have hl' : ops.toList.drop (idx + 1) = l := by
      have := congrArg List.tail hl
      simpa using this
    have hrange : (List.range ops.size).drop idx = idx :: (List.range ops.size).drop (idx + 1) := by
      rw [List.drop_eq_getElem_cons (by simpa using hlt)]
      simp
    rw [hrange, wpOpsIn_cons]
    refine step_sound hE hW hst ho hd hs hr _ Q ?_
    intro g1 a1 w1 hs1 hr1 hm1 hd1
    refine ih (idx + 1) hl' g1 a1 w1 hs1 hr1 ?_
    intro g2 a2 w2 hs2 hr2 hm2 hd2
    exact hQ g2 a2 w2 hs2 hr2 (hm1.trans hm2) (hd1.trans hd2)
theorem any_sound (hE : EnvOk P E π) (hW : WideF F) {ops : Array Oper} (hd : dstOk nt fx ops = true) (Q : Exit → Act → World → Prop) {T : Tbl} {σ' : St} : ∀ (k : Nat) (listed : Array Bool) (σ : St), AnyA (opD E) ops T σ' k listed σ →
    ∀ (g : G) (a : Act) (w : World), Sim π fr w0 hw0 g σ.objs w → FrR nt g σ a w → Next1 π fr w0 hw0 nt fx g a w σ' (Q .normal) → wpAnyIn F n P .any ops Q k listed a w := by
  intro k
  induction k with
  | zero =>
    intro listed σ h g a w hs hr hQ
    obtain ⟨h1, rfl⟩ := h
    exact ⟨h1, hQ g a w hs hr (Mono.refl g w) (Stay.refl fx a)⟩
  | succ k ih =>
    intro listed σ h g a w hs hr hQ
    refine ⟨fun h0 => ?_, fun i hi => ?_⟩
    · obtain rfl := h.1 h0
      exact hQ g a w hs hr (Mono.refl g w) (Stay.refl fx a)
    · obtain ⟨o, σ1, ho, hst, hk⟩ := h.2 i hi
      refine step_sound hE hW hst ho hd hs hr _ Q ?_
      intro g1 a1 w1 hs1 hr1 hm1 hd1
      refine ih _ σ1 hk g1 a1 w1 hs1 hr1 ?_
      intro g2 a2 w2 hs2 hr2 hm2 hd2
      exact hQ g2 a2 w2 hs2 hr2 (hm1.trans hm2) (hd1.trans hd2)
/-- A region in the order of the text. -/
theorem region_sound (hE : EnvOk P E π) (hW : WideF F) {ops : Array Oper} (hd : dstOk nt fx ops = true) {α : Type} {K : St → List (List Nat × List Nat) → Option α} {r : α} {σ : St} (h : execOps (opD E) ops K ops.toList σ [] = some r) (id : Nat)
    {g : G} {a : Act} {w : World} (hs : Sim π fr w0 hw0 g σ.objs w) (hr : FrR nt g σ a w) (Q : Exit → Act → World → Prop) (hQ : ∀ σ' log, K σ' log = some r → Next1 π fr w0 hw0 nt fx g a w σ' (Q .normal)) : (Code.region id ops false).wpIn F n P Q a w := by
  obtain ⟨σ', log, h1, h2⟩ := execOps_run _ _ _ h
  refine wpIn_region ?_
  have := run_sound (n := n) hE hW hd Q h1 0 (by simp) g a w hs hr (hQ σ' _ h2)
  simpa using this
/-- .. in any order. -/
theorem region_draw_sound (hE : EnvOk P E π) (hW : WideF F) (hm : P.follows .mixedOrders = true) {ops : Array Oper} (hd : dstOk nt fx ops = true) (hl : lexOk ops = true) {α : Type} {K : St → Option α} {r : α} {σ : St}
    (h : execOps (opD E) ops (fun σ log => cond (compat ops log) (K σ) none) ops.toList σ [] = some r) (id : Nat)
    {g : G} {a : Act} {w : World} (hs : Sim π fr w0 hw0 g σ.objs w) (hr : FrR nt g σ a w) (Q : Exit → Act → World → Prop) (hQ : ∀ σ', K σ' = some r → Next1 π fr w0 hw0 nt fx g a w σ' (Q .normal)) : (Code.region id ops true).wpIn F n P Q a w := by
  obtain ⟨σ', log, h1, h2⟩ := execOps_run _ _ _ h
  rw [List.nil_append] at h2
  cases hc : compat ops log with
  | false => rw [hc] at h2; cases h2
  | true =>
    rw [hc] at h2
    have hany := any_of_run (opD_frame hE.call) hl hc ops.size 0 σ log (by omega) (by simp) (by simpa using h1)
    refine wpIn_region_any hm ?_
    obtain ⟨s1, a1⟩ := hs.drew hE.par
    refine any_sound hE hW hd Q ops.size _ σ hany g a w.drew s1 ⟨hr.size, fun t => (hr.tmps t).mono a1⟩ ?_
    intro g2 a2 w2 hs2 hr2 hm2 hd2
    exact hQ σ' h2 g2 a2 w2 hs2 hr2 (a1.toMono.trans hm2) hd2
end
end Go.Proofs.Ytgmjbnglenmlpaa.Ab
end
