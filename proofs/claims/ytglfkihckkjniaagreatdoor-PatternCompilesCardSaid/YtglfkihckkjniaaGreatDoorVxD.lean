/-
VX, part D: operations, one by one. No statement of the seat is proved here.
-/
import Derived.Test.YtglfkihckkjniaaGreatDoorVxC
set_option linter.unusedVariables false
set_option linter.unusedSimpArgs false
namespace Go.Proofs.YtglfkihckkjniaaGreatDoor.Vx
open Go Go.RowKit

inductive Res where
  | eff (p : Prop) (e : Eff)
abbrev Mem := Nat → Option SB
abbrev Evl := Operand → Option SV
abbrev Tbl := List (TypeId × TI)

structure Here (C : Ctx) (tbl : Tbl) (ρ : Env) (S : AS) (a : Act) (w : World) (fr : Nat) (o : Oper) (ev : Evl) (m : Mem) : Prop where
  sat : Sat C ρ S a w
  tbl : tblOK C.P tbl
  ev : ∀ x sv, ev x = some sv → S.ev x = some sv
  mem : ∀ k b, m k = some b → S.blk k = some b
  fresh : ∀ k, fr ≤ k → k < fr + 16 → ρ k = none
  fr16 : 16 ≤ fr
  dst : ∀ d, o.dst = some d → d < C.nt

section
variable {C : Ctx} {tbl : Tbl} {ρ : Env} {S : AS} {a : Act} {w : World} {fr : Nat} {o : Oper} {ev : Evl} {m : Mem}
theorem Here.val (H : Here C tbl ρ S a w fr o ev m) {x : Operand} {sv : SV} (hx : ev x = some sv) : ∃ u, denV ρ sv = some u ∧ a.eval x = u := H.sat.ev (H.ev x sv hx)
theorem Here.fr0 (H : Here C tbl ρ S a w fr o ev m) : ρ fr = none := H.fresh fr (Nat.le_refl _) (by omega)
theorem Here.pure (H : Here C tbl ρ S a w fr o ev m) {v : Value} {x : SV} (hr : (execOp a.eval o).run C.P w = .ok (.value v) w) (hv : denV ρ x = some v) : Does C ρ S a w fr o ⟨x, []⟩ :=
  does_value hr (Env.le_refl ρ) (Dom.refl ρ fr) (H.sat.slot o.dst x v H.dst fun _ _ => hv)

def xMove (ev : Evl) (x : Operand) : Option Res := (ev x).map fun v => .eff True ⟨v, []⟩
theorem does_move (H : Here C tbl ρ S a w fr o ev m) {x : Operand} (ho : o.op = .move x ∨ o.op = .assign x) {p : Prop} {e : Eff} (hx : xMove ev x = some (.eff p e)) : Does C ρ S a w fr o e := by
  simp only [xMove, Option.map_eq_some_iff, Res.eff.injEq] at hx
  obtain ⟨sv, h1, _, rfl⟩ := hx
  obtain ⟨u, h2, h3⟩ := H.val h1
  exact H.pure (v := u) (by unfold execOp; rcases ho with ho | ho <;> (simp only [ho]; rw [h3]; rfl)) h2

def xPick (ev : Evl) (c x y : Operand) : Option Res :=
  match ev c with
  | some (.one .tt) => (ev x).map fun v => .eff True ⟨v, []⟩
  | some (.one .ff) => (ev y).map fun v => .eff True ⟨v, []⟩
  | _ => none
theorem does_pick (H : Here C tbl ρ S a w fr o ev m) {c x y : Operand} (ho : o.op = .pick c x y) {p : Prop} {e : Eff} (hx : xPick ev c x y = some (.eff p e)) : Does C ρ S a w fr o e := by
  unfold xPick at hx
  split at hx
  · rename_i hc
    simp only [Option.map_eq_some_iff, Res.eff.injEq] at hx
    obtain ⟨sv, h1, _, rfl⟩ := hx
    obtain ⟨u, h2, h3⟩ := H.val h1
    obtain ⟨b, h4, h5⟩ := H.val hc
    simp only [denV, den, Option.some.injEq] at h4
    subst h4
    exact H.pure (v := u) (by unfold execOp; simp only [ho]; rw [h3, h5]; rfl) h2
  · rename_i hc
    simp only [Option.map_eq_some_iff, Res.eff.injEq] at hx
    obtain ⟨sv, h1, _, rfl⟩ := hx
    obtain ⟨u, h2, h3⟩ := H.val h1
    obtain ⟨b, h4, h5⟩ := H.val hc
    simp only [denV, den, Option.some.injEq] at h4
    subst h4
    exact H.pure (v := u) (by unfold execOp; simp only [ho]; rw [h3, h5]; rfl) h2
  · cases hx

/-- A new variable: a slice's, and a builder's buffer, is a row of nothing from the first. -/
def allocMem (fr : Nat) (T : TypeId) (i : TI) : List (Nat × Option SB) :=
  match i.kind, i.zero with
  | .slice e, [.nils] =>
    match initLs e with
    | some l => [(fr, some (.cells T [.slc (fr + 1)])), (fr + 1, some (.row e l))]
    | none => [(fr, some (.cells T i.zero))]
  | _, [.raw (.pointer none), .nils] => bif Nat.beq T 149 then [(fr, some (.cells T [.mp fr false, .slc (fr + 1)])), (fr + 1, some (.row 5 (.ints .u8 [])))] else [(fr, some (.cells T i.zero))]
  | _, _ => [(fr, some (.cells T i.zero))]
def xAlloc (tbl : Tbl) (fr : Nat) (T : TypeId) : Option Res := (look T tbl).map fun i => .eff True ⟨.one (.ptr fr 0), allocMem fr T i⟩
theorem does_alloc (H : Here C tbl ρ S a w fr o ev m) {T : TypeId} (ho : o.op = .alloc T) {p : Prop} {e : Eff} (hx : xAlloc tbl fr T = some (.eff p e)) : Does C ρ S a w fr o e := by
  simp only [xAlloc, Option.map_eq_some_iff, Res.eff.injEq] at hx
  obtain ⟨i, h1, _, rfl⟩ := hx
  obtain ⟨inf, d, z, t⟩ := tbl_get H.tbl h1
  have hrun : (execOp a.eval o).run C.P w = .ok (.value (.pointer (some ⟨w.heap.size, 0, none⟩))) (w.alloc (.cells z.cells T)) := by
    unfold execOp
    simp only [ho, Instr.alloc, Sem.run_bind, t.run_zero, Result.andThen_ok, newVar, newRow, run_newObj, Sem.run_pure]
    rfl
  have plain : Does C ρ S a w fr o ⟨.one (.ptr fr 0), [(fr, some (.cells T i.zero))]⟩ :=
    does_value (w' := w.alloc (.cells z.cells T)) hrun (Env.set_le H.fr0 _) (Env.set_dom (fr := fr) _ (Nat.le_refl _) (by omega)) (H.sat.newCells o.dst T i.zero z.cells.toList H.fr0 H.fr16 H.dst (t.zden ρ))
  have with_row : ∀ (ee : TypeId) (l : Ls) (cs : List SC), l.len = 0 → l.flat = [] → denL (ρ.set (fr + 1) (.slice none 0 0)) cs = some z.cells.toList →
      Does C ρ S a w fr o ⟨.one (.ptr fr 0), [(fr, some (.cells T cs)), (fr + 1, some (.row ee l))]⟩ := by
    intro ee l cs hl hf hcs
    have f1 : ρ (fr + 1) = none := H.fresh (fr + 1) (by omega) (by omega)
    have s1 := H.sat.newNil f1 (by have := H.fr16; omega) ee l hl hf
    have f0 : (ρ.set (fr + 1) (.slice none 0 0)) fr = none := by
      unfold Env.set
      rw [if_neg (by omega)]
      exact H.fr0
    have s2 := s1.newCells o.dst T cs z.cells.toList f0 H.fr16 H.dst hcs
    refine does_value (w' := w.alloc (.cells z.cells T)) hrun (Env.le_trans (Env.set_le f1 _) (Env.set_le f0 _)) ?_ (s2.same ?_ ?_)
    · intro k u hk
      unfold Env.set at hk
      split at hk
      · exact .inr ⟨by omega, by omega⟩
      · split at hk
        · exact .inr ⟨by omega, by omega⟩
        · exact .inl ⟨u, hk⟩
    · intro t
      rw [AS.upd_slot, AS.upd_slot]
      split
      · rfl
      · rw [AS.upd_slot]; rfl
    · intro k
      rw [AS.upd_blk, AS.upd_blk, AS.upd_blk]
      simp only [look_cons]
      by_cases h1 : fr = k
      · simp [h1]
      · by_cases h2 : fr + 1 = k
        · simp [h1, h2, look]
        · simp [h1, h2, look]
  show Does C ρ S a w fr o ⟨.one (.ptr fr 0), allocMem fr T i⟩
  have hz := t.zden (ρ.set (fr + 1) (.slice none 0 0))
  unfold allocMem
  split
  · rename_i ee hk hzero
    split
    · rename_i l hl
      obtain ⟨z1, z2⟩ := initLs_len hl
      refine with_row ee l _ z1 z2 ?_
      rw [hzero] at hz
      rw [← hz]
      simp [denL_cons, denL_nil, den, Env.set_self]
    · exact plain
  · rename_i hk hzero
    cases hb : Nat.beq T 149 with
    | false => exact plain
    | true =>
      rw [cond_true]
      refine with_row 5 (.ints .u8 []) _ rfl rfl ?_
      rw [hzero] at hz
      rw [← hz]
      simp [denL_cons, denL_nil, den, Env.set_self, Value.oneCell']
  · exact plain

def xBox (tbl : Tbl) (fr : Nat) (ev : Evl) (T : TypeId) (x : Operand) : Option Res := ((ev x).bind cellsOf).map fun cs => .eff True ⟨.one (.ptr fr 0), [(fr, some (.cells T cs))]⟩
theorem does_box (H : Here C tbl ρ S a w fr o ev m) {T : TypeId} {x : Operand} (ho : o.op = .box T x) {p : Prop} {e : Eff} (hx : xBox tbl fr ev T x = some (.eff p e)) : Does C ρ S a w fr o e := by
  simp only [xBox, Option.map_eq_some_iff, Option.bind_eq_some_iff, Res.eff.injEq] at hx
  obtain ⟨cs, ⟨sv, h1, h2⟩, _, rfl⟩ := hx
  obtain ⟨u, h3, h4⟩ := H.val h1
  refine does_value (w' := w.alloc (.cells u.cells T)) ?_ (Env.set_le H.fr0 _) (Env.set_dom (fr := fr) _ (Nat.le_refl _) (by omega)) (H.sat.newCells o.dst T cs u.cells.toList H.fr0 H.fr16 H.dst (cellsOf_den H.sat.one h2 h3))
  unfold execOp
  simp only [ho, Instr.box, Sem.run_bind, Result.andThen_ok, newVar, newRow, run_newObj, Sem.run_pure, h4]
  rfl

/-! structs and slices out of parts -/
def fillSC (place : Nat → Option (Nat × Nat)) (ev : Evl) : List SC → List (Nat × Operand) → Option (List SC)
  | cs, [] => some cs
  | cs, (i, x) :: rest =>
    match place i, (ev x).bind cellsOf with
    | some (off, size), some new => bif Nat.beq new.length size && Nat.ble (off + size) cs.length then fillSC place ev (cs.take off ++ new ++ cs.drop (off + size)) rest else none
    | _, _ => none
theorem foldl_set (l : List Value) : ∀ (cs : List Value) (off k : Nat), off + k + l.length ≤ cs.length →
    ((l.zipIdx k).foldl (fun (c : Array Value) (x : Value × Nat) => c.setIfInBounds (off + x.2) x.1) cs.toArray) = (cs.take (off + k) ++ l ++ cs.drop (off + k + l.length)).toArray := by
  induction l with
  | nil => intro cs off k _; simp
  | cons v l ih =>
    intro cs off k hl
    simp only [List.length_cons] at hl
    rw [List.zipIdx_cons, List.foldl_cons]
    have e1 : cs.toArray.setIfInBounds (off + k) v = (cs.set (off + k) v).toArray := by simp
    show List.foldl _ (cs.toArray.setIfInBounds (off + k) v) _ = _
    rw [e1, ih (cs.set (off + k) v) off (k + 1) (by simp; omega)]
    congr 1
    apply List.ext_getElem?
    intro j
    simp only [List.getElem?_append, List.getElem?_take, List.getElem?_drop, List.length_append, List.length_take, List.length_set, List.getElem?_set, List.length_cons, List.getElem?_cons]
    have hm1 : min (off + (k + 1)) cs.length = off + k + 1 := by omega
    have hm2 : min (off + k) cs.length = off + k := by omega
    rw [hm1, hm2]
    rcases Nat.lt_trichotomy j (off + k) with h | h | h
    · rw [if_pos (show j < off + k + 1 + l.length by omega), if_pos (show j < off + k + 1 by omega), if_pos (show j < off + (k + 1) by omega), if_neg (show ¬ off + k = j by omega),
        if_pos (show j < off + k + (l.length + 1) by omega), if_pos h, if_pos h]
    · subst h
      rw [if_pos (show off + k < off + k + 1 + l.length by omega), if_pos (show off + k < off + k + 1 by omega), if_pos (show off + k < off + (k + 1) by omega), if_pos rfl, if_pos (show off + k < cs.length by omega),
        if_pos (show off + k < off + k + (l.length + 1) by omega), if_neg (Nat.lt_irrefl _), if_pos (by omega)]
    · by_cases h2 : j < off + k + 1 + l.length
      · rw [if_pos h2, if_neg (show ¬ j < off + k + 1 by omega), if_pos (show j < off + k + (l.length + 1) by omega), if_neg (show ¬ j < off + k by omega), if_neg (show ¬ j - (off + k) = 0 by omega)]
        congr 1
      · rw [if_neg h2, if_neg (show ¬ j < off + k + (l.length + 1) by omega)]
        rw [if_neg (show ¬ off + k = off + (k + 1) + l.length + (j - (off + k + 1 + l.length)) by omega)]
        congr 1
        omega
theorem fill_run {ρ : Env} (hρ : ∀ k v, ρ k = some v → v.oneCell' = true) {place : Nat → Option (Nat × Nat)} {ev : Evl} {a : Act} (hev : ∀ x sv, ev x = some sv → ∃ u, denV ρ sv = some u ∧ a.eval x = u) :
    ∀ (parts : List (Nat × Operand)) (cs cs' : List SC) (vs : List Value), fillSC place ev cs parts = some cs' → denL ρ cs = some vs →
      ∃ vs', denL ρ cs' = some vs' ∧ Instr.fill place vs.toArray (parts.map fun x => (x.1, a.eval x.2)) = some vs'.toArray := by
  intro parts
  induction parts with
  | nil =>
    intro cs cs' vs h hv
    simp only [fillSC, Option.some.injEq] at h
    subst h
    exact ⟨vs, hv, rfl⟩
  | cons x rest ih =>
    obtain ⟨i, x⟩ := x
    intro cs cs' vs h hv
    unfold fillSC at h
    split at h
    · rename_i off size new hp hn
      simp only [Option.bind_eq_some_iff] at hn
      obtain ⟨sv, h1, h2⟩ := hn
      obtain ⟨u, h3, h4⟩ := hev x sv h1
      have hu := cellsOf_den hρ h2 h3
      have hul := denL_length hu
      rw [Array.length_toList] at hul
      have hvl := denL_length hv
      cases hc : Nat.beq new.length size && Nat.ble (off + size) cs.length with
      | false => rw [hc] at h; cases h
      | true =>
        rw [hc] at h
        simp only [cond_true] at h
        simp only [Bool.and_eq_true] at hc
        have c1 := Nat.eq_of_beq_eq_true hc.1
        have c2 := Nat.le_of_ble_eq_true hc.2
        have hden : denL ρ (cs.take off ++ new ++ cs.drop (off + size)) = some (vs.take off ++ u.cells.toList ++ vs.drop (off + size)) :=
          denL_append (denL_append (denL_take hv _) hu) (denL_drop hv _)
        obtain ⟨vs', h5, h6⟩ := ih _ cs' _ h hden
        refine ⟨vs', h5, ?_⟩
        simp only [List.map_cons, Instr.fill, hp, h4]
        rw [if_neg]
        · rw [← h6]
          congr 1
          have := foldl_set u.cells.toList vs off 0 (by rw [Array.length_toList]; omega)
          rw [Nat.add_zero, Array.length_toList] at this
          rw [show off + size = off + u.cells.size by omega, ← this]
          rw [← Array.foldl_toList, Array.toList_zipIdx]
        · simp
          omega
    · cases h
def structPlace (fs : List (Nat × Nat × Bool)) (i : Nat) : Option (Nat × Nat) := (fs[i]?).map fun x => (x.1, x.2.1)
def xBuild (tbl : Tbl) (ev : Evl) (T : TypeId) (parts : List (Nat × Operand)) : Option Res :=
  match look T tbl with
  | some ⟨_, _, true, zero, .struct fs⟩ => (fillSC (structPlace fs) ev zero parts).map fun cs => .eff True ⟨.agg cs, []⟩
  | _ => none
theorem fields_mapM {P : Program} (w : World) : ∀ (fs : List (Nat × Nat × Bool)) (fields : List Field), fieldsOK P fs fields = true →
    (fields.mapM fun f => (do pure (f.offset, ← sizeOf f.type) : Sem (Nat × Nat))).run P w = .ok (fs.map fun x => (x.1, x.2.1)) w := by
  intro fs
  induction fs with
  | nil => intro fields h; cases fields with | nil => rfl | cons => simp [fieldsOK] at h
  | cons x fs ih =>
    intro fields h
    cases fields with
    | nil => simp [fieldsOK] at h
    | cons f fields =>
      simp only [fieldsOK, Bool.and_eq_true] at h
      obtain ⟨⟨h1, h2⟩, h3⟩ := h
      split at h2
      · rename_i i d hi hd
        simp only [Bool.and_eq_true] at h2
        rw [List.mapM_cons]
        simp only [Sem.run_bind, Sem.run_pure, Result.andThen_ok, sizeOf, typeInfo, run_program, hi]
        have := ih fields h3
        simp only [sizeOf, typeInfo] at this
        rw [this]
        simp [Nat.eq_of_beq_eq_true h1, Nat.eq_of_beq_eq_true h2.1.1]
      · cases h2
theorem does_build (H : Here C tbl ρ S a w fr o ev m) {T : TypeId} {parts : Array (Nat × Operand)} (ho : o.op = .build T parts) {p : Prop} {e : Eff} (hx : xBuild tbl ev T parts.toList = some (.eff p e)) : Does C ρ S a w fr o e := by
  unfold xBuild at hx
  split at hx
  · rename_i sz by_ zero fs hl
    simp only [Option.map_eq_some_iff, Res.eff.injEq] at hx
    obtain ⟨cs, h1, _, rfl⟩ := hx
    obtain ⟨inf, d, z, t⟩ := tbl_get H.tbl hl
    have hk := t.kind
    simp only [kindOK] at hk
    split at hk
    · rename_i fields
      obtain ⟨vs', h2, h3⟩ := fill_run H.sat.one (fun x sv hx => H.val hx) parts.toList zero cs z.cells.toList h1 (t.zden ρ)
      refine H.pure (v := .agg vs'.toArray) ?_ (by simp [denV, h2])
      have hf := fields_mapM (P := C.P) w fs fields.toList hk
      unfold execOp
      simp only [ho, Instr.build, Sem.run_bind, t.run_zero, t.run_under, Result.andThen_ok]
      have hfa : (fields.mapM fun f => (do pure (f.offset, ← sizeOf f.type) : Sem (Nat × Nat))).run C.P w = .ok (fs.map fun x => (x.1, x.2.1)).toArray w := by
        rw [Array.mapM_eq_mapM_toList, Sem.run_map, hf]
        rfl
      rw [hfa]
      simp only [Result.andThen_ok]
      have hpl : (fun i => (fs.map fun x => (x.1, x.2.1)).toArray[i]?) = structPlace fs := by
        funext i
        simp [structPlace]
      have hparts : (parts.map fun x => (x.1, a.eval x.2)).toList = parts.toList.map fun x => (x.1, a.eval x.2) := by simp
      rw [hpl]
      have : Instr.fill (structPlace fs) z.cells (parts.map fun x => (x.1, a.eval x.2)).toList = some vs'.toArray := by
        rw [hparts]; simpa using h3
      rw [this]
      rfl
    · cases hk
  · cases hx
def xBuildSlice (tbl : Tbl) (fr : Nat) (ev : Evl) (T : TypeId) (len : Nat) (parts : List (Nat × Operand)) : Option Res :=
  match look T tbl with
  | some ⟨_, _, _, _, .slice e⟩ =>
    match look e tbl with
    | some i => bif Nat.ble (len * i.size) 16777216 && Nat.ble 1 (len * i.size) then (fillSC (fun j => some (j * i.size, i.size)) ev ((List.range (len * i.size)).map fun j => i.zero.getD (j % i.size) .und) parts).map fun cs => .eff True ⟨.one (.slc fr), [(fr, some (.lit e len cs))]⟩ else none
    | none => none
  | _ => none
theorem denL_range {ρ : Env} {cs : List SC} {vs : List Value} (h : denL ρ cs = some vs) : ∀ n, (∀ j, j < n → j % cs.length < cs.length) →
    denL ρ ((List.range n).map fun j => cs.getD (j % cs.length) .und) = some ((List.range n).map fun j => vs.getD (j % cs.length) undef) := by
  intro n
  induction n with
  | zero => intro _; rfl
  | succ n ih =>
    intro hlt
    rw [List.range_succ, List.map_append, List.map_append]
    refine denL_append (ih fun j hj => hlt j (by omega)) ?_
    have hj := hlt n (by omega)
    obtain ⟨v, h1, h2⟩ := denL_get h (List.getElem?_eq_getElem hj)
    refine denL_cons_some.2 ⟨v, [], ?_, rfl, ?_⟩
    · simpa [List.getD_eq_getElem?_getD, List.getElem?_eq_getElem hj] using h1
    · simp [List.getD_eq_getElem?_getD, h2]
theorem does_buildSlice (H : Here C tbl ρ S a w fr o ev m) {T : TypeId} {len : Nat} {parts : Array (Nat × Operand)} (ho : o.op = .buildSlice T len parts) {p : Prop} {e : Eff} (hx : xBuildSlice tbl fr ev T len parts.toList = some (.eff p e)) : Does C ρ S a w fr o e := by
  unfold xBuildSlice at hx
  split at hx
  · rename_i sz by_ ag zero el hl
    split at hx
    · rename_i i hi
      obtain ⟨inf, d, z, t⟩ := tbl_get H.tbl hl
      obtain ⟨inf2, d2, z2, t2⟩ := tbl_get H.tbl hi
      have hk := t.kind
      simp only [kindOK] at hk
      split at hk
      · rename_i e'
        have := Nat.eq_of_beq_eq_true hk
        subst this
        cases hc : Nat.ble (len * i.size) 16777216 && Nat.ble 1 (len * i.size) with
        | false => rw [hc] at hx; cases hx
        | true =>
          rw [hc] at hx
          simp only [cond_true, Option.map_eq_some_iff, Res.eff.injEq] at hx
          obtain ⟨cs, h1, _, rfl⟩ := hx
          simp only [Bool.and_eq_true] at hc
          have c1 := Nat.le_of_ble_eq_true hc.1
          have c2 := Nat.le_of_ble_eq_true hc.2
          have hpos : 0 < i.size := by
            rcases Nat.eq_zero_or_pos i.size with h | h
            · rw [h] at c2; omega
            · exact h
          have hz := denL_range (t2.zden ρ) (len * i.size) (fun j _ => Nat.mod_lt _ (by rw [t2.zlen]; exact hpos))
          rw [t2.zlen] at hz
          obtain ⟨vs', h2, h3⟩ := fill_run H.sat.one (fun x sv hx => H.val hx) parts.toList _ cs _ h1 hz
          refine does_value (w' := w.alloc (.cells vs'.toArray e')) ?_ (Env.set_le H.fr0 _) (Env.set_dom (fr := fr) _ (Nat.le_refl _) (by omega)) (H.sat.newLit o.dst e' len cs vs' H.fr0 H.fr16 H.dst h2)
          unfold execOp
          simp only [ho, Instr.buildSlice, Sem.run_bind, t.run_under, t2.run_size, Result.andThen_ok]
          rw [if_neg (by omega)]
          simp only [Sem.run_pure, Result.andThen_ok]
          rw [if_neg (show ¬ len * i.size = 0 by omega)]
          simp only [Sem.run_bind, t2.run_zero, Sem.run_pure, Result.andThen_ok]
          have hparts : (parts.map fun x => (x.1, a.eval x.2)).toList = parts.toList.map fun x => (x.1, a.eval x.2) := by simp
          have hz2 : (Array.range (len * i.size)).map (fun x => z2.cells[x % z2.cells.size]!) = ((List.range (len * i.size)).map fun j => z2.cells.toList.getD (j % i.size) undef).toArray := by
            rw [t2.zsize]
            apply Array.ext'
            simp only [Array.toList_map, Array.toList_range]
            apply List.map_congr_left
            intro j hj
            have : j % i.size < z2.cells.size := by rw [t2.zsize]; exact Nat.mod_lt _ hpos
            simp [List.getD_eq_getElem?_getD, getElem!_pos, this]
          rw [hz2, hparts, h3]
          simp only [Sem.run_bind, newRow, run_newObj, Sem.run_pure, Result.andThen_ok]
          rfl
      · cases hk
    · cases hx
  · cases hx
end
end Go.Proofs.YtglfkihckkjniaaGreatDoor.Vx
