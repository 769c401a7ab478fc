/-
VX, part C: the types' table; what a step of the machine gives, for operations that need no callee. No statement of the seat is proved here.
-/
import Derived.Test.YtglfkihckkjniaaGreatDoorVxB
set_option linter.unusedVariables false
set_option linter.unusedSimpArgs false
namespace Go.Proofs.YtglfkihckkjniaaGreatDoor.Vx
open Go Go.RowKit

inductive TK where
  | other
  | bool
  | str
  | int (k : IntKind)
  | slice (e : TypeId)
  | struct (fs : List (Nat × Nat × Bool))
  | arr (n : Nat) (e : TypeId)
structure TI where
  size : Nat
  bytes : Nat
  agg : Bool
  zero : List SC
  kind : TK

def zeroOK : SC → Value → Bool
  | .int k n, .int k' n' => decide (k = k') && decide (n = n')
  | .ff, .bool b => !b
  | .str s, .string s' => decide (s = s'.data.toList)
  | .nils, .slice none 0 0 => true
  | .raw (.pointer none), .pointer none => true
  | .raw .nilFunc, .nilFunc => true
  | .raw .nilIface, .nilIface => true
  | _, _ => false
def zeroLOK : List SC → List Value → Bool
  | [], [] => true
  | x :: l, v :: vs => zeroOK x v && zeroLOK l vs
  | _, _ => false
def aggDesc : TypeDesc → Bool
  | .struct _ | .array _ _ => true
  | _ => false
def fieldsOK (P : Program) : List (Nat × Nat × Bool) → List Field → Bool
  | [], [] => true
  | x :: xs, f :: fs => Nat.beq f.offset x.1 && (match P.info? f.type, P.underlying f.type with
      | some i, some d => Nat.beq i.size x.2.1 && Nat.ble 1 x.2.1 && (aggDesc d == x.2.2)
      | _, _ => false) && fieldsOK P xs fs
  | _, _ => false
def kindOK (P : Program) (d : TypeDesc) : TK → Bool
  | .other => true
  | .bool => (match d with | .bool => true | _ => false)
  | .str => (match d with | .string => true | _ => false)
  | .int k => match d with | .int k' => decide (k' = k) | _ => false
  | .slice e => match d with | .slice e' => Nat.beq e' e | _ => false
  | .struct fs => match d with | .struct fields => fieldsOK P fs fields.toList | _ => false
  | .arr n e => match d with | .array n' e' => Nat.beq n' n && Nat.beq e' e | _ => false
def zeroForm (agg : Bool) : Value → Bool
  | .agg _ => agg
  | .tuple _ => false
  | _ => !agg
def tiOK (P : Program) (x : TypeId × TI) : Bool :=
  match P.info? x.1, P.underlying x.1 with
  | some inf, some d => Nat.beq inf.size x.2.size && Nat.beq inf.bytes x.2.bytes && (aggDesc d == x.2.agg) && kindOK P d x.2.kind && Nat.beq x.2.zero.length x.2.size &&
    (match inf.zero with | some z => zeroLOK x.2.zero z.cells.toList && zeroForm x.2.agg z | none => false)
  | _, _ => false
def tblOK (P : Program) (tbl : List (TypeId × TI)) : Prop := tbl.all (tiOK P) = true

theorem look_mem {α : Type} {k : Nat} {x : α} : ∀ {l : List (Nat × α)}, look k l = some x → (k, x) ∈ l := by
  intro l
  induction l with
  | nil => intro h; cases h
  | cons y l ih =>
    obtain ⟨j, y⟩ := y
    intro h
    rw [look_cons] at h
    split at h
    · rename_i e; subst e; cases h; exact List.mem_cons_self ..
    · exact List.mem_cons_of_mem _ (ih h)
theorem zeroOK_den {x : SC} {v : Value} (h : zeroOK x v = true) (ρ : Env) : den ρ x = some v := by
  unfold zeroOK at h
  split at h <;> simp_all [den, Value.oneCell']
theorem zeroLOK_den : ∀ {l : List SC} {vs : List Value}, zeroLOK l vs = true → ∀ ρ, denL ρ l = some vs := by
  intro l
  induction l with
  | nil => intro vs h ρ; cases vs with | nil => rfl | cons => simp [zeroLOK] at h
  | cons x l ih =>
    intro vs h ρ
    cases vs with
    | nil => simp [zeroLOK] at h
    | cons v vs =>
      simp only [zeroLOK, Bool.and_eq_true] at h
      exact denL_cons_some.2 ⟨v, vs, zeroOK_den h.1 ρ, ih h.2 ρ, rfl⟩
structure TIS (P : Program) (T : TypeId) (i : TI) (inf : TypeInfo) (d : TypeDesc) (z : Value) : Prop where
  info : P.info? T = some inf
  under : P.underlying T = some d
  size : inf.size = i.size
  bytes : inf.bytes = i.bytes
  agg : aggDesc d = i.agg
  kind : kindOK P d i.kind = true
  zlen : i.zero.length = i.size
  zero : inf.zero = some z
  zden : ∀ ρ, denL ρ i.zero = some z.cells.toList
  zform : zeroForm i.agg z = true
theorem tbl_get {P : Program} {tbl : List (TypeId × TI)} (h : tblOK P tbl) {T : TypeId} {i : TI} (hl : look T tbl = some i) : ∃ inf d z, TIS P T i inf d z := by
  have h1 := (List.all_eq_true.1 h) _ (look_mem hl)
  unfold tiOK at h1
  split at h1
  · rename_i inf d hi hd
    simp only [Bool.and_eq_true, beq_iff_eq] at h1
    obtain ⟨⟨⟨⟨⟨a1, a2⟩, a3⟩, a4⟩, a5⟩, a6⟩ := h1
    split at a6
    · rename_i z hz
      simp only [Bool.and_eq_true] at a6
      exact ⟨inf, d, z, hi, hd, Nat.eq_of_beq_eq_true a1, Nat.eq_of_beq_eq_true a2, a3, a4, Nat.eq_of_beq_eq_true a5, hz, zeroLOK_den a6.1, a6.2⟩
    · cases a6
  · cases h1
theorem TIS.zsize {P : Program} {T : TypeId} {i : TI} {inf : TypeInfo} {d : TypeDesc} {z : Value} (h : TIS P T i inf d z) : z.cells.size = i.size := by
  have := denL_length (h.zden fun _ => none)
  rw [Array.length_toList] at this
  rw [this, h.zlen]
theorem TIS.run_zero {P : Program} {T : TypeId} {i : TI} {inf : TypeInfo} {d : TypeDesc} {z : Value} (h : TIS P T i inf d z) (w : World) : (zeroValue T).run P w = .ok z w := by
  simp [zeroValue, typeInfo, h.info, h.zero]
theorem TIS.run_size {P : Program} {T : TypeId} {i : TI} {inf : TypeInfo} {d : TypeDesc} {z : Value} (h : TIS P T i inf d z) (w : World) : (sizeOf T).run P w = .ok i.size w := by
  simp [sizeOf, typeInfo, h.info, h.size]
theorem TIS.run_under {P : Program} {T : TypeId} {i : TI} {inf : TypeInfo} {d : TypeDesc} {z : Value} (h : TIS P T i inf d z) (w : World) : (underlying T).run P w = .ok d w := by
  simp [underlying, h.under]
theorem TIS.run_agg {P : Program} {T : TypeId} {i : TI} {inf : TypeInfo} {d : TypeDesc} {z : Value} (h : TIS P T i inf d z) (w : World) : (isAgg T).run P w = .ok i.agg w := by
  rw [← h.agg]
  unfold isAgg
  rw [Sem.run_bind, h.run_under]
  cases d <;> rfl

def initLs (e : TypeId) : Option Ls :=
  look e [(71, .toks []), (79, .items []), (57, .ivs []), (103, .ivs []), (3, .ints .i64 []), (21, .ints .i32 []),
    (5, .ints .u8 []), (200, .ints .u32 []), (9, .strs []), (62, .spots []), (73, .elms [])]
theorem initLs_len {e : TypeId} {l : Ls} (h : initLs e = some l) : l.len = 0 ∧ l.flat = [] := by
  have h1 := look_mem h
  simp only [List.mem_cons, Prod.mk.injEq, List.not_mem_nil, or_false] at h1
  rcases h1 with ⟨_, rfl⟩ | ⟨_, rfl⟩ | ⟨_, rfl⟩ | ⟨_, rfl⟩ | ⟨_, rfl⟩ | ⟨_, rfl⟩ | ⟨_, rfl⟩ | ⟨_, rfl⟩ | ⟨_, rfl⟩ | ⟨_, rfl⟩ | ⟨_, rfl⟩ <;> exact ⟨rfl, rfl⟩
/-! ### operands -/
def constSV : Value → SV
  | .int k n => .one (.int k n)
  | .bool true => .one .tt
  | .bool false => .one .ff
  | .string s => .one (.str s.data.toList)
  | .slice none 0 0 => .one .nils
  | v => .one (.raw v)
def AS.ev (S : AS) : Operand → Option SV
  | .tmp t => match S.slot t with
    | some (.one .und) => none
    | x => x
  | .const v => bif v.oneCell' then some (constSV v) else none
  | .func f => some (.one (.fn f []))
  | .global g => some (.one (.raw (.pointer (some ⟨g, 0, none⟩))))
theorem constSV_den (v : Value) (hv : v.oneCell' = true) (ρ : Env) : denV ρ (constSV v) = some v := by
  unfold constSV
  split <;> simp_all [denV, den]
theorem Sat.ev {C : Ctx} {ρ : Env} {S : AS} {a : Act} {w : World} (h : Sat C ρ S a w) {x : Operand} {sv : SV} (hx : S.ev x = some sv) : ∃ u, denV ρ sv = some u ∧ a.eval x = u := by
  cases x with
  | tmp t =>
    simp only [AS.ev] at hx
    split at hx
    · cases hx
    · rename_i hne
      obtain ⟨v, h1, h2⟩ := h.slots t sv hx (fun e => hne (by rw [hx, e]))
      exact ⟨v, h1, by simp [Act.eval, Array.getD_eq_getD_getElem?, h2]⟩
  | const v =>
    simp only [AS.ev] at hx
    cases hv : v.oneCell' with
    | false => rw [hv] at hx; cases hx
    | true => rw [hv] at hx; simp only [cond_true, Option.some.injEq] at hx; subst hx; exact ⟨v, constSV_den v hv ρ, rfl⟩
  | func f => simp only [AS.ev, Option.some.injEq] at hx; subst hx; exact ⟨.func (.func f) #[] #[], by simp [denV, den], rfl⟩
  | global g => simp only [AS.ev, Option.some.injEq] at hx; subst hx; exact ⟨_, by simp [denV, den, Value.oneCell']; rfl, rfl⟩

def cellsOf : SV → Option (List SC)
  | .one x => some [x]
  | .agg l => some l
  | .tup _ => none
def svOf (agg : Bool) (cs : List SC) : Option SV :=
  match agg, cs with
  | true, cs => some (.agg cs)
  | false, [x] => some (.one x)
  | false, _ => none
theorem cellsOf_den {ρ : Env} (hρ : ∀ k v, ρ k = some v → v.oneCell' = true) {sv : SV} {cs : List SC} {v : Value} (h : cellsOf sv = some cs) (hv : denV ρ sv = some v) : denL ρ cs = some v.cells.toList := by
  cases sv with
  | one x =>
    simp only [cellsOf, Option.some.injEq] at h; subst h
    have h1 := den_oneCell hρ hv
    have : v.cells = #[v] := by cases v <;> simp_all [Value.oneCell', Value.cells]
    rw [this]
    exact denL_cons_some.2 ⟨v, [], hv, rfl, rfl⟩
  | agg l =>
    simp only [cellsOf, Option.some.injEq] at h; subst h
    simp only [denV, Option.map_eq_some_iff] at hv
    obtain ⟨vs, h1, rfl⟩ := hv
    simpa [Value.cells] using h1
  | tup l => cases h
theorem svOf_den {ρ : Env} {agg : Bool} {cs : List SC} {sv : SV} {vs : List Value} (h : svOf agg cs = some sv) (hv : denL ρ cs = some vs) :
    (agg = true ∧ denV ρ sv = some (.agg vs.toArray)) ∨ (agg = false ∧ ∃ v, vs = [v] ∧ denV ρ sv = some v) := by
  unfold svOf at h
  split at h
  · cases h; exact .inl ⟨rfl, by simp [denV, hv]⟩
  · cases h
    obtain ⟨v, us, h1, h2, rfl⟩ := denL_cons_some.1 hv
    cases h2
    exact .inr ⟨rfl, v, rfl, h1⟩
  · cases h

/-! ### one step that hands back a value -/
def Dom (ρ ρ' : Env) (fr : Nat) : Prop := ∀ k v, ρ' k = some v → (∃ u, ρ k = some u) ∨ (fr ≤ k ∧ k < fr + 16)
theorem Dom.refl (ρ : Env) (fr : Nat) : Dom ρ ρ fr := fun k v h => .inl ⟨v, h⟩
/-- What one operation does, for whatever goes on behind it. -/
def Does (C : Ctx) (ρ : Env) (S : AS) (a : Act) (w : World) (fr : Nat) (o : Oper) (e : Eff) : Prop :=
  ∀ (K : Act → World → Prop) (Q : Exit → Act → World → Prop),
    (∀ ρ' a' w', ρ.le ρ' → Dom ρ ρ' fr → Sat C ρ' (S.upd o.dst e) a' w' → K a' w') → o.wp C.P a w K Q
theorem does_value {C : Ctx} {ρ : Env} {S : AS} {a : Act} {w : World} {fr : Nat} {o : Oper} {e : Eff} {v : Value} {w' : World} {ρ' : Env}
    (hr : (execOp a.eval o).run C.P w = .ok (.value v) w') (hρ : ρ.le ρ') (hd : Dom ρ ρ' fr) (hs : Sat C ρ' (S.upd o.dst e) (a.put o.dst v) w') : Does C ρ S a w fr o e := by
  intro K Q hK
  unfold Oper.wp
  rw [hr]
  exact hK ρ' _ _ hρ hd hs
theorem does_skip {C : Ctx} {ρ : Env} {S : AS} {a : Act} {w : World} {fr : Nat} {o : Oper} {e : Eff} {w' : World} {ρ' : Env}
    (hr : (execOp a.eval o).run C.P w = .ok .skip w') (hρ : ρ.le ρ') (hd : Dom ρ ρ' fr) (hs : Sat C ρ' (S.upd o.dst e) (a.put o.dst undef) w') : Does C ρ S a w fr o e := by
  intro K Q hK
  unfold Oper.wp
  rw [hr]
  exact hK ρ' _ _ hρ hd hs

section
variable {C : Ctx} {ρ : Env} {S : AS} {a : Act} {w : World} {fr : Nat}
/-- The world stands; only a slot is written. -/
theorem Sat.slot (h : Sat C ρ S a w) (dst : Option Nat) (x : SV) (v : Value) (hd : ∀ d, dst = some d → d < C.nt) (hv : dst ≠ none → x ≠ .one .und → denV ρ x = some v) :
    Sat C ρ (S.upd dst ⟨x, []⟩) (a.put dst v) w :=
  h.step (G := fun _ => False) dst ⟨x, []⟩ v (Env.le_refl ρ) h.one (fun _ _ => rfl) (Fr.refl _ _) (fun _ hg => hg.elim) hv hd (fun _ _ _ _ _ _ _ _ hg => hg)
    (fun _ _ hl => by simp [look] at hl) (fun _ _ _ _ _ _ hl => by simp [look] at hl)
theorem Sat.drew (h : Sat C ρ S a w) : Sat C ρ S a w.drew :=
  ⟨h.frame.drew, h.tsize, h.defers, h.one, h.pin, h.slots, fun k b hb => by
    obtain ⟨v, h1, h2⟩ := h.mem k b hb
    exact ⟨v, h1, h2.fr (Env.le_refl ρ) (G := fun _ => False) (Fr.refl _ w).drew (fun _ _ hg => hg)⟩, h.apart⟩
def Env.set (ρ : Env) (k : Nat) (v : Value) : Env := fun j => if j = k then some v else ρ j
theorem Env.set_self (ρ : Env) (k : Nat) (v : Value) : ρ.set k v k = some v := by simp [Env.set]
theorem Env.set_le {ρ : Env} {k : Nat} (h : ρ k = none) (v : Value) : ρ.le (ρ.set k v) := by
  intro j u hj
  unfold Env.set
  split
  · subst_vars; rw [h] at hj; cases hj
  · exact hj
theorem Env.set_dom {ρ : Env} {k fr : Nat} (v : Value) (h1 : fr ≤ k) (h2 : k < fr + 16) : Dom ρ (ρ.set k v) fr := by
  intro j u hj
  unfold Env.set at hj
  split at hj
  · subst_vars; exact .inr ⟨h1, h2⟩
  · exact .inl ⟨u, hj⟩
theorem Env.set_pin {ρ : Env} {fr : Nat} (h16 : 16 ≤ fr) (v : Value) : ∀ k, k < 16 → ρ.set fr v k = ρ k := by
  intro k hk
  unfold Env.set
  rw [if_neg (by omega)]
theorem Env.set_one {ρ : Env} (h : ∀ k v, ρ k = some v → v.oneCell' = true) {k : Nat} {v : Value} (hv : v.oneCell' = true) : ∀ j u, ρ.set k v j = some u → u.oneCell' = true := by
  intro j u hj
  unfold Env.set at hj
  split at hj
  · cases hj; exact hv
  · exact h j u hj
/-- A new block of the call's own. -/
theorem Sat.new (h : Sat C ρ S a w) (dst : Option Nat) (x : SV) (v u : Value) (b : SB) (o : Obj) (hfr : ρ fr = none) (h16 : 16 ≤ fr) (hd : ∀ d, dst = some d → d < C.nt)
    (hu1 : u.oneCell' = true) (hu : blockOf u = some w.heap.size) (hv : dst ≠ none → denV (ρ.set fr u) x = some v)
    (hb : SBok C (ρ.set fr u) (w.alloc o) u b) (hm : b.mut = true) : Sat C (ρ.set fr u) (S.upd dst ⟨x, [(fr, some b)]⟩) (a.put dst v) (w.alloc o) := by
  have hblk : ∀ k b' u', k ≠ fr → S.blk k = some b' → ρ.set fr u k = some u' → ∀ g, foot u' b' = some g → g < w.heap.size := by
    intro k b' u' hk hb' hu' g hg
    obtain ⟨y, e1, e2⟩ := h.mem k b' hb'
    have : y = u' := by unfold Env.set at hu'; rw [if_neg hk, e1] at hu'; cases hu'; rfl
    subst this
    exact e2.lt g hg
  have hfoot : foot u b = some w.heap.size := by
    cases b <;> first | exact hu | cases hm
  refine h.step (G := fun _ => False) dst ⟨x, [(fr, some b)]⟩ v (Env.set_le hfr u) (Env.set_one h.one hu1) (Env.set_pin h16 u) (Fr.alloc w o _) (fun _ hg => hg.elim) (fun hne _ => hv hne) hd (fun _ _ _ _ _ _ _ _ hg => hg) ?_ ?_
  · intro k b' hl
    rw [look_cons] at hl
    split at hl
    · subst_vars; cases hl; exact ⟨u, Env.set_self ρ _ u, hb⟩
    · cases hl
  · intro k b' u' k' b2 u2 hl hu' hne hl2 hu2 _
    rw [look_cons] at hl
    split at hl
    · rename_i e
      subst e
      cases hl
      rw [Env.set_self] at hu'
      cases hu'
      rw [look_cons, if_neg (Ne.symm hne)] at hl2
      rcases hl2 with hl2 | ⟨_, hl2⟩
      · cases hl2
      · intro g hg hg2
        rw [hfoot] at hg; cases hg
        have := hblk k' b2 u2 hne hl2 hu2 _ hg2
        omega
    · cases hl
theorem heap_new (w : World) (o : Obj) : (w.alloc o).heap[w.heap.size]? = some o := by
  show (w.heap.push o)[w.heap.size]? = some o
  simp
theorem Sat.base_le (h : Sat C ρ S a w) : C.own w.heap.size := .inl h.frame.size
theorem Sat.newCells (h : Sat C ρ S a w) (dst : Option Nat) (ty : TypeId) (cs : List SC) (vs : List Value) (hfr : ρ fr = none) (h16 : 16 ≤ fr) (hd : ∀ d, dst = some d → d < C.nt) (hcs : denL ρ cs = some vs) :
    Sat C (ρ.set fr (.pointer (some ⟨w.heap.size, 0, none⟩))) (S.upd dst ⟨.one (.ptr fr 0), [(fr, some (.cells ty cs))]⟩) (a.put dst (.pointer (some ⟨w.heap.size, 0, none⟩))) (w.alloc (.cells vs.toArray ty)) := by
  refine h.new dst _ _ _ _ _ hfr h16 hd rfl rfl (fun _ => ?_) ⟨w.heap.size, vs, rfl, denL_le (Env.set_le hfr _) hcs, heap_new w _, h.base_le⟩ rfl
  simp [denV, den, denPtr, Env.set_self, baseOf]
theorem Sat.newLit (h : Sat C ρ S a w) (dst : Option Nat) (ty : TypeId) (n : Nat) (cs : List SC) (vs : List Value) (hfr : ρ fr = none) (h16 : 16 ≤ fr) (hd : ∀ d, dst = some d → d < C.nt) (hcs : denL ρ cs = some vs) :
    Sat C (ρ.set fr (.slice (some ⟨w.heap.size, 0, none⟩) n n)) (S.upd dst ⟨.one (.slc fr), [(fr, some (.lit ty n cs))]⟩) (a.put dst (.slice (some ⟨w.heap.size, 0, none⟩) n n)) (w.alloc (.cells vs.toArray ty)) := by
  refine h.new dst _ _ _ _ _ hfr h16 hd rfl rfl (fun _ => ?_) ⟨w.heap.size, vs, rfl, denL_le (Env.set_le hfr _) hcs, heap_new w _, h.base_le⟩ rfl
  simp [denV, den, Env.set_self]
/-- A block of the call's own is written anew. -/
theorem Sat.write (h : Sat C ρ S a w) (dst : Option Nat) (x : SV) (v : Value) {k : Nat} {ty : TypeId} {cs cs' : List SC} (hk : S.blk k = some (.cells ty cs))
    {b : Nat} {u : Value} {vs' : List Value} (hu : ρ k = some u) (hb : baseOf u = some b) (hcs : denL ρ cs' = some vs') {w' : World} (hw : Fr (fun i => i = b) w w') (hh : w'.heap[b]? = some (.cells vs'.toArray ty (0, 0)))
    (hd : ∀ d, dst = some d → d < C.nt) (hv : dst ≠ none → x ≠ .one .und → denV ρ x = some v) : Sat C ρ (S.upd dst ⟨x, [(k, some (.cells ty cs'))]⟩) (a.put dst v) w' := by
  obtain ⟨u', e1, e2⟩ := h.mem k _ hk
  rw [hu] at e1; cases e1
  have hown : C.own b := e2.own rfl b (blockOf_base hb)
  refine h.step (G := fun i => i = b) dst ⟨x, [(k, some (.cells ty cs'))]⟩ v (Env.le_refl ρ) h.one (fun _ _ => rfl) hw (fun i hi => by subst hi; exact hown) hv hd ?_ ?_ ?_
  · intro k' b' u' hl hk' hu' g hg hgb
    rw [look_cons] at hl
    split at hl
    · cases hl
    · rename_i hne
      subst hgb
      exact h.apart k k' _ b' u u' hne hk hk' rfl hu hu' g (blockOf_base hb) hg
  · intro k' b' hl
    rw [look_cons] at hl
    split at hl
    · subst_vars; cases hl
      exact ⟨u, hu, b, vs', hb, hcs, hh, hown⟩
    · cases hl
  · intro k1 b1 u1 k2 b2 u2 hl hu1 hne hl2 hu2 _
    rw [look_cons] at hl
    split at hl
    · rename_i e
      subst e
      cases hl
      rw [hu] at hu1; cases hu1
      rw [look_cons, if_neg (Ne.symm hne)] at hl2
      rcases hl2 with hl2 | ⟨_, hl2⟩
      · cases hl2
      · intro g hg hg2
        exact h.apart k k2 _ b2 u u2 (Ne.symm hne) hk hl2 rfl hu hu2 g hg hg2
    · cases hl
theorem Sat.same {S' : AS} (h : Sat C ρ S a w) (hs : ∀ t, S'.slot t = S.slot t) (hb : ∀ k, S'.blk k = S.blk k) : Sat C ρ S' a w where
  frame := h.frame
  tsize := h.tsize
  defers := h.defers
  one := h.one
  pin := h.pin
  slots := fun t x hx => h.slots t x (by rw [← hs]; exact hx)
  mem := fun k b hk => h.mem k b (by rw [← hb]; exact hk)
  apart := fun k k' b b' v v' hne h1 h2 => h.apart k k' b b' v v' hne (by rw [← hb]; exact h1) (by rw [← hb]; exact h2)
/-- A name for a row of nothing. -/
theorem Sat.newNil (h : Sat C ρ S a w) {k : Nat} (hk : ρ k = none) (h16 : 16 ≤ k) (e : TypeId) (l : Ls) (hl : l.len = 0) (hf : l.flat = []) :
    Sat C (ρ.set k (.slice none 0 0)) (S.upd none ⟨.one .und, [(k, some (.row e l))]⟩) a w := by
  have := h.step (G := fun _ => False) (w' := w) none ⟨.one .und, [(k, some (.row e l))]⟩ undef (Env.set_le hk (.slice none 0 0)) (Env.set_one h.one rfl) (Env.set_pin h16 _) (Fr.refl _ _) (fun _ hg => hg.elim) (fun hne => absurd rfl hne) (fun d hd => by cases hd) (fun _ _ _ _ _ _ _ _ hg => hg)
    (fun j b hj => by
      rw [look_cons] at hj
      split at hj
      · subst_vars; cases hj
        refine ⟨_, Env.set_self ρ _ _, ?_, fun g hg => by cases hg⟩
        rw [hl, hf]; exact World.ownsRowF_nil w 0 e l.sz
      · cases hj)
    (fun j b u j' b' u' hj hu _ _ _ _ => by
      rw [look_cons] at hj
      split at hj
      · subst_vars
        cases hj
        rw [Env.set_self] at hu; cases hu
        intro g hg; cases hg
      · cases hj)
  exact this
end
end Go.Proofs.YtglfkihckkjniaaGreatDoor.Vx
