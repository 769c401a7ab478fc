/-
VX, part F: operations, continued: stores, fields, interface values, numbers. No statement of the seat is proved here.
-/
import Derived.Test.YtglfkihckkjniaaGreatDoorVxE
set_option linter.unusedVariables false
set_option linter.unusedSimpArgs false
namespace Go.Proofs.YtglfkihckkjniaaGreatDoor.Vx
open Go Go.RowKit
section
variable {C : Ctx} {tbl : Tbl} {ρ : Env} {S : AS} {a : Act} {w : World} {fr : Nat} {o : Oper} {ev : Evl} {m : Mem}

theorem Fr.setRow (w : World) (g : Nat) (cs : Array Value) : Fr (fun i => i = g) w (w.setRow g cs) :=
  ⟨rfl, rfl, rfl, by simp, fun i _ hn => setRow_other w g i cs hn⟩
def xStore (tbl : Tbl) (ev : Evl) (m : Mem) (T : TypeId) (x y : Operand) : Option Res :=
  match look T tbl, ev x, (ev y).bind cellsOf with
  | some i, some (.one (.ptr k off)), some new =>
    match m k with
    | some (.cells ty cs) => bif Nat.beq new.length i.size && Nat.ble (off + i.size) cs.length then some (.eff True ⟨.one .und, [(k, some (.cells ty (cs.take off ++ new ++ cs.drop (off + i.size))))]⟩) else none
    | _ => none
  | _, _, _ => none
theorem does_store (H : Here C tbl ρ S a w fr o ev m) {T : TypeId} {x y : Operand} (ho : o.op = .store T x y) {p : Prop} {e : Eff} (hx : xStore tbl ev m T x y = some (.eff p e)) : Does C ρ S a w fr o e := by
  unfold xStore at hx
  split at hx
  · rename_i i k off new hi hev hnew
    split at hx
    · rename_i ty cs hm
      simp only [Option.bind_eq_some_iff] at hnew
      obtain ⟨sv, h1, h2⟩ := hnew
      obtain ⟨u, h3, h4⟩ := H.val h1
      obtain ⟨q, h5, h6⟩ := H.val hev
      have hu := cellsOf_den H.sat.one h2 h3
      have hul := denL_length hu
      rw [Array.length_toList] at hul
      have hk := H.mem k _ hm
      obtain ⟨yv, hy, b, vs, b1, b2, b3, b4⟩ := H.sat.mem k _ hk
      have hvl := denL_length b2
      obtain ⟨inf, d, z, t⟩ := tbl_get H.tbl hi
      cases hc : Nat.beq new.length i.size && Nat.ble (off + i.size) cs.length with
      | false => rw [hc] at hx; cases hx
      | true =>
        rw [hc] at hx
        simp only [cond_true, Option.some.injEq, Res.eff.injEq] at hx
        obtain ⟨_, rfl⟩ := hx
        simp only [Bool.and_eq_true] at hc
        have c1 := Nat.eq_of_beq_eq_true hc.1
        have c2 := Nat.le_of_ble_eq_true hc.2
        have hq : q = .pointer (some ⟨b, off, none⟩) := by
          simp only [denV, den, denPtr, hy, Option.bind_some, b1, Option.map_some, Option.some.injEq] at h5
          exact h5.symm
        have hst := run_storeCells_at C.P b off ty u.cells.toList 0 vs.toArray w b3 (by simp; omega) (denL_oneCell H.sat.one hu)
        have hden : denL ρ (cs.take off ++ new ++ cs.drop (off + i.size)) = some (vs.take off ++ u.cells.toList ++ vs.drop (off + i.size)) := denL_append (denL_append (denL_take b2 _) hu) (denL_drop b2 _)
        refine does_skip (w' := w.setRow b (vs.take off ++ u.cells.toList ++ vs.drop (off + i.size)).toArray) ?_ (Env.le_refl ρ) (Dom.refl ρ fr)
          (H.sat.write o.dst _ undef hk hy b1 hden (Fr.setRow w b _) (setRow_heap w b _ _ ty _ b3) H.dst (fun _ hne => absurd rfl hne))
        unfold execOp
        simp only [ho, Instr.storeAt, Instr.sureAddr, h4, h6, hq, Sem.run_bind, Sem.run_pure, Result.andThen_ok, storeVar, t.run_size]
        rw [if_neg (by omega)]
        simp only [Sem.run_bind, Sem.run_pure, Result.andThen_ok, hst]
        simp only [Nat.add_zero, Array.length_toList, hul, c1]
    · cases hx
  · cases hx

theorem fieldsOK_get {P : Program} : ∀ {fs : List (Nat × Nat × Bool)} {fields : List Field}, fieldsOK P fs fields = true → ∀ {f : Nat} {x : Nat × Nat × Bool}, fs[f]? = some x →
    ∃ fl inf d, fields[f]? = some fl ∧ fl.offset = x.1 ∧ P.info? fl.type = some inf ∧ inf.size = x.2.1 ∧ 1 ≤ x.2.1 ∧ P.underlying fl.type = some d ∧ aggDesc d = x.2.2 := by
  intro fs
  induction fs with
  | nil => intro fields _ f x hx; simp at hx
  | cons y fs ih =>
    intro fields h f x hx
    cases fields with
    | nil => simp [fieldsOK] at h
    | cons fl fields =>
      simp only [fieldsOK, Bool.and_eq_true] at h
      obtain ⟨⟨h1, h2⟩, h3⟩ := h
      cases f with
      | succ f => simpa using ih h3 (f := f) (x := x) (by simpa using hx)
      | zero =>
        simp only [List.getElem?_cons_zero, Option.some.injEq] at hx
        subst hx
        split at h2
        · rename_i i d hi hd
          simp only [Bool.and_eq_true, beq_iff_eq] at h2
          exact ⟨fl, i, d, by simp, Nat.eq_of_beq_eq_true h1, hi, Nat.eq_of_beq_eq_true h2.1.1, Nat.le_of_ble_eq_true h2.1.2, hd, h2.2⟩
        · cases h2
def fieldsOf (tbl : Tbl) (T : TypeId) : Option (List (Nat × Nat × Bool)) :=
  match look T tbl with
  | some ⟨_, _, _, _, .struct fs⟩ => some fs
  | _ => none
theorem fieldsOf_get (hT : tblOK C.P tbl) {T : TypeId} {fs : List (Nat × Nat × Bool)} (h : fieldsOf tbl T = some fs) : ∃ fields, C.P.underlying T = some (.struct fields) ∧ fieldsOK C.P fs fields.toList = true := by
  unfold fieldsOf at h
  split at h
  · rename_i s b g z fs' hl
    cases h
    obtain ⟨inf, d, z, t⟩ := tbl_get hT hl
    have hk := t.kind
    simp only [kindOK] at hk
    split at hk
    · rename_i fields
      exact ⟨fields, t.under, hk⟩
    · cases hk
  · cases h
def xFieldAddr (tbl : Tbl) (ev : Evl) (T : TypeId) (x : Operand) (f : Nat) : Option Res :=
  match (fieldsOf tbl T).bind fun fs => fs[f]?, ev x with
  | some fl, some (.one (.ptr k off)) => some (.eff True ⟨.one (.ptr k (off + fl.1)), []⟩)
  | some fl, some (.one (.ept k i sz g)) => some (.eff True ⟨.one (.ept k i sz (g + fl.1)), []⟩)
  | _, _ => none
theorem does_fieldAddr (H : Here C tbl ρ S a w fr o ev m) {T : TypeId} {x : Operand} {f : Nat} (ho : o.op = .fieldAddr T x f) {p : Prop} {e : Eff} (hx : xFieldAddr tbl ev T x f = some (.eff p e)) : Does C ρ S a w fr o e := by
  have key : ∀ (fl : Nat × Nat × Bool), ((fieldsOf tbl T).bind fun fs => fs[f]?) = some fl → ∀ (b off : Nat), a.eval x = .pointer (some ⟨b, off, none⟩) →
      (execOp a.eval o).run C.P w = .ok (.value (.pointer (some ⟨b, off + fl.1, none⟩))) w := by
    intro fl hfl b off hv
    simp only [Option.bind_eq_some_iff] at hfl
    obtain ⟨fs, h1, h2⟩ := hfl
    obtain ⟨fields, h3, h4⟩ := fieldsOf_get H.tbl h1
    obtain ⟨fd, inf, d, g1, g2, g3, g4, g5, g6, g7⟩ := fieldsOK_get h4 h2
    unfold execOp
    have hsz : (sizeOf fd.type).run C.P w = .ok fl.2.1 w := by simp [sizeOf, typeInfo, g3, g4]
    rw [Array.getElem?_toList] at g1
    simp only [ho, Instr.fieldAt, Sem.run_bind, run_underlying h3, Result.andThen_ok, g1, Instr.sureAddr, hv, Sem.run_pure, fieldPlace, hsz]
    rw [if_neg (by omega)]
    simp only [Sem.run_pure, Result.andThen_ok, Addr.add_lit, g2]
  unfold xFieldAddr at hx
  split at hx
  · rename_i fl k off hfl hev
    cases hx
    obtain ⟨u, h1, h2⟩ := H.val hev
    simp only [denV, den, denPtr, Option.map_eq_some_iff] at h1
    obtain ⟨b, h3, rfl⟩ := h1
    exact H.pure (key fl hfl b off h2) (by simp [denV, den, denPtr, h3])
  · rename_i fl k i sz g hfl hev
    cases hx
    obtain ⟨u, h1, h2⟩ := H.val hev
    simp only [denV, den, Option.map_eq_some_iff] at h1
    obtain ⟨b, h3, rfl⟩ := h1
    refine H.pure (key fl hfl b.block (b.off + (i * sz + g)) h2) ?_
    simp [denV, den, h3]
    try omega
  · cases hx
def xField (tbl : Tbl) (ev : Evl) (T : TypeId) (x : Operand) (f : Nat) : Option Res :=
  match (fieldsOf tbl T).bind fun fs => fs[f]?, ev x with
  | some fl, some (.agg l) => bif Nat.ble (fl.1 + fl.2.1) l.length then (svOf fl.2.2 ((l.drop fl.1).take fl.2.1)).map fun v => .eff True ⟨v, []⟩ else none
  | _, _ => none
theorem run_part {P : Program} (w : World) {T : TypeId} {inf : TypeInfo} {d : TypeDesc} (hi : P.info? T = some inf) (hu : P.underlying T = some d) {off : Nat} {cs : List SC} {vs : List Value} {sv : SV} {ρ : Env}
    (hs : svOf (aggDesc d) ((cs.drop off).take inf.size) = some sv) (hv : denL ρ cs = some vs) (hle : off + inf.size ≤ cs.length) : ∃ v, (part T vs.toArray off).run P w = .ok v w ∧ denV ρ sv = some v := by
  have hagg : (isAgg T).run P w = .ok (aggDesc d) w := by
    unfold isAgg
    rw [Sem.run_bind, run_underlying hu]
    cases d <;> rfl
  have hvl := denL_length hv
  have hd := denL_take (denL_drop hv off) inf.size
  rcases svOf_den hs hd with ⟨h1, h2⟩ | ⟨h1, v, h2, h3⟩
  · refine ⟨_, ?_, h2⟩
    unfold part
    rw [Sem.run_bind, hagg, Result.andThen_ok, h1]
    simp only [if_true, Sem.run_bind, sizeOf, typeInfo, run_program, hi, Result.andThen_ok, Sem.run_pure]
    congr 2
    apply Array.ext'
    simp [Array.toList_extract, List.extract_eq_take_drop]
  · refine ⟨v, ?_, h3⟩
    unfold part
    rw [Sem.run_bind, hagg, Result.andThen_ok, h1]
    have : vs[off]? = some v := by
      have := congrArg (fun l : List Value => l[0]?) h2
      simp only [List.getElem?_take, List.getElem?_drop, List.getElem?_cons_zero, Nat.add_zero] at this
      split at this
      · exact this
      · cases this
    simp [this]
theorem does_field (H : Here C tbl ρ S a w fr o ev m) {T : TypeId} {x : Operand} {f : Nat} (ho : o.op = .field T x f) {p : Prop} {e : Eff} (hx : xField tbl ev T x f = some (.eff p e)) : Does C ρ S a w fr o e := by
  unfold xField at hx
  split at hx
  · rename_i fl l hfl hev
    cases hc : Nat.ble (fl.1 + fl.2.1) l.length with
    | false => rw [hc] at hx; cases hx
    | true =>
      rw [hc] at hx
      simp only [cond_true, Option.map_eq_some_iff, Res.eff.injEq] at hx
      obtain ⟨sv, hs, _, rfl⟩ := hx
      simp only [Option.bind_eq_some_iff] at hfl
      obtain ⟨fs, h1, h2⟩ := hfl
      obtain ⟨fields, h3, h4⟩ := fieldsOf_get H.tbl h1
      obtain ⟨fd, inf, d, g1, g2, g3, g4, g5, g6, g7⟩ := fieldsOK_get h4 h2
      obtain ⟨u, h5, h6⟩ := H.val hev
      simp only [denV, Option.map_eq_some_iff] at h5
      obtain ⟨vs, h7, rfl⟩ := h5
      rw [← g4, ← g7] at hs
      obtain ⟨v, h8, h9⟩ := run_part w g3 g6 hs h7 (by have := Nat.le_of_ble_eq_true hc; omega)
      refine H.pure (v := v) ?_ h9
      rw [Array.getElem?_toList] at g1
      unfold execOp
      simp only [ho, Instr.field, Sem.run_bind, run_underlying h3, Result.andThen_ok, g1, h6, asAgg, Sem.run_pure, g2, h8]
  · cases hx
def xNilCheck (ev : Evl) (x : Operand) : Option Res :=
  match ev x with
  | some (.one (.ptr k off)) => some (.eff True ⟨.one (.ptr k off), []⟩)
  | some (.one (.ept k i sz f)) => some (.eff True ⟨.one (.ept k i sz f), []⟩)
  | some (.one (.fn f l)) => some (.eff True ⟨.one (.fn f l), []⟩)
  | _ => none
theorem does_nilCheck (H : Here C tbl ρ S a w fr o ev m) {x : Operand} (ho : o.op = .nilCheck x) {p : Prop} {e : Eff} (hx : xNilCheck ev x = some (.eff p e)) : Does C ρ S a w fr o e := by
  unfold xNilCheck at hx
  split at hx
  · rename_i k off hev
    cases hx
    obtain ⟨u, h1, h2⟩ := H.val hev
    have h1' := h1
    simp only [denV, den, denPtr, Option.map_eq_some_iff] at h1
    obtain ⟨b, h3, rfl⟩ := h1
    exact H.pure (by unfold execOp; simp only [ho, h2]; rfl) h1'
  · rename_i k i sz f hev
    cases hx
    obtain ⟨u, h1, h2⟩ := H.val hev
    have h1' := h1
    simp only [denV, den, Option.map_eq_some_iff] at h1
    obtain ⟨b, h3, rfl⟩ := h1
    exact H.pure (by unfold execOp; simp only [ho, h2]; rfl) h1'
  · rename_i f l hev
    cases hx
    obtain ⟨u, h1, h2⟩ := H.val hev
    have h1' := h1
    simp only [denV, den, Option.map_eq_some_iff] at h1
    obtain ⟨b, h3, rfl⟩ := h1
    exact H.pure (by unfold execOp; simp only [ho, h2]; rfl) h1'
  · cases hx
def xExtract (ev : Evl) (x : Operand) (i : Nat) : Option Res :=
  match ev x with
  | some (.tup l) =>
    match l[i]? with
    | some (true, cs) => some (.eff True ⟨.agg cs, []⟩)
    | some (false, [y]) => some (.eff True ⟨.one y, []⟩)
    | _ => none
  | _ => none
theorem mapM_get {α : Type} {f : α → Option Value} : ∀ {l : List α} {vs : List Value}, l.mapM f = some vs → ∀ {i : Nat} {x : α}, l[i]? = some x → ∃ v, f x = some v ∧ vs[i]? = some v := by
  intro l
  induction l with
  | nil => intro vs _ i x hx; simp at hx
  | cons y l ih =>
    intro vs h i x hx
    rw [List.mapM_cons] at h
    cases hy : f y with
    | none => simp [hy] at h
    | some v =>
      rw [hy] at h
      cases hl : l.mapM f with
      | none => simp [hl] at h
      | some us =>
        simp [hl] at h
        subst h
        cases i with
        | zero => simp at hx; subst hx; exact ⟨v, hy, by simp⟩
        | succ i => simpa using ih hl (i := i) (x := x) (by simpa using hx)
theorem does_extract (H : Here C tbl ρ S a w fr o ev m) {x : Operand} {i : Nat} (ho : o.op = .extract x i) {p : Prop} {e : Eff} (hx : xExtract ev x i = some (.eff p e)) : Does C ρ S a w fr o e := by
  unfold xExtract at hx
  split at hx
  · rename_i l hev
    obtain ⟨u, h1, h2⟩ := H.val hev
    simp only [denV, Option.map_eq_some_iff] at h1
    obtain ⟨vs, h3, rfl⟩ := h1
    split at hx
    · rename_i cs hl
      cases hx
      obtain ⟨v, h4, h5⟩ := mapM_get h3 hl
      refine H.pure (v := v) ?_ ?_
      · unfold execOp
        simp only [ho, Instr.extract, h2, List.getElem?_toArray, h5]
        rfl
      · simpa [denC, denV] using h4
    · rename_i y hl
      cases hx
      obtain ⟨v, h4, h5⟩ := mapM_get h3 hl
      refine H.pure (v := v) ?_ ?_
      · unfold execOp
        simp only [ho, Instr.extract, h2, List.getElem?_toArray, h5]
        rfl
      · simpa [denC, denV] using h4
    · cases hx
  · cases hx
def xUnOp (ev : Evl) (op : UnOp) (x : Operand) : Option Res :=
  match op, ev x with
  | .not, some (.one .tt) => some (.eff True ⟨.one .ff, []⟩)
  | .not, some (.one .ff) => some (.eff True ⟨.one .tt, []⟩)
  | .not, some (.one (.bool b)) => some (.eff True ⟨.one (.bool (!b)), []⟩)
  | .neg, some (.one (.int k n)) => some (.eff True ⟨.one (.int k (k.wrap (0 - n))), []⟩)
  | _, _ => none
theorem does_unOp (H : Here C tbl ρ S a w fr o ev m) {op : UnOp} {T : TypeId} {x : Operand} (ho : o.op = .unOp op T x) {p : Prop} {e : Eff} (hx : xUnOp ev op x = some (.eff p e)) : Does C ρ S a w fr o e := by
  unfold xUnOp at hx
  split at hx <;> first
    | (cases hx; done)
    | (rename_i hev
       cases hx
       obtain ⟨u, h1, h2⟩ := H.val hev
       simp only [denV, den, Option.some.injEq] at h1
       subst h1
       exact H.pure (by unfold execOp; simp only [ho, h2]; rfl) rfl)
def capsOf (ev : Evl) : List Operand → Option (List (Nat × Nat))
  | [] => some []
  | x :: l =>
    match ev x with
    | some (.one (.ptr k off)) => (capsOf ev l).map fun r => (k, off) :: r
    | _ => none
def xMakeFunc (ev : Evl) (f : Fn) (first caps : List Operand) : Option Res :=
  match f, first with
  | .func f, [] => (capsOf ev caps).map fun l => .eff True ⟨.one (.fn f l), []⟩
  | _, _ => none
theorem capsOf_den (H : Here C tbl ρ S a w fr o ev m) : ∀ {xs : List Operand} {l : List (Nat × Nat)}, capsOf ev xs = some l → ∃ vs : List Value, (l.mapM fun (k, off) => denPtr ρ k off) = some vs ∧ xs.map a.eval = vs := by
  intro xs
  induction xs with
  | nil => intro l h; cases h; exact ⟨[], rfl, rfl⟩
  | cons x xs ih =>
    intro l h
    unfold capsOf at h
    split at h
    · rename_i k off hev
      simp only [Option.map_eq_some_iff] at h
      obtain ⟨r, h1, rfl⟩ := h
      obtain ⟨vs, h2, h3⟩ := ih h1
      obtain ⟨u, h4, h5⟩ := H.val hev
      refine ⟨u :: vs, ?_, by simp [h3, h5]⟩
      rw [List.mapM_cons]
      simp only [denV, den] at h4
      simp [h4, h2]
    · cases h
theorem does_makeFunc (H : Here C tbl ρ S a w fr o ev m) {f : Fn} {first caps : Array Operand} (ho : o.op = .makeFunc f first caps) {p : Prop} {e : Eff} (hx : xMakeFunc ev f first.toList caps.toList = some (.eff p e)) : Does C ρ S a w fr o e := by
  unfold xMakeFunc at hx
  split at hx
  · rename_i f hf
    simp only [Option.map_eq_some_iff, Res.eff.injEq] at hx
    obtain ⟨l, h1, _, rfl⟩ := hx
    obtain ⟨vs, h2, h3⟩ := capsOf_den H h1
    have hfe : first = #[] := by simpa using hf
    refine H.pure (v := .func (.func f) #[] vs.toArray) ?_ (by simp [denV, den, h2])
    unfold execOp
    have : caps.map a.eval = vs.toArray := by apply Array.ext'; simpa using h3
    simp [ho, Instr.makeFunc, hfe, this]
  · cases hx
end
end Go.Proofs.YtglfkihckkjniaaGreatDoor.Vx
