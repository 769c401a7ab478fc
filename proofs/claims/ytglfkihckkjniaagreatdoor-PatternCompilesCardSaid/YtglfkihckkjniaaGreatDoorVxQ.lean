/-
VX, part Q: contracts proved, and used. No statement of the seat is proved here.
-/
import Derived.Test.YtglfkihckkjniaaGreatDoorVxP
set_option linter.unusedVariables false
set_option linter.unusedSimpArgs false
namespace Go.Proofs.YtglfkihckkjniaaGreatDoor.Vx
open Go Go.RowKit

structure FSpec where
  tmpl : List PV
  spec : List PV → Option (List Prop × PV)
def Glob (Gl : List (Nat × (List Value → Prop))) (w : World) : Prop := ∀ p ∈ Gl, ∃ (cs : List Value) (ty : TypeId) (fz : Nat × Nat), w.heap[p.1]? = some (.cells cs.toArray ty fz) ∧ p.2 cs
structure GC (P : Program) (Gl : List (Nat × (List Value → Prop))) (C : Ctx) : Prop where
  prog : C.P = P
  glob : Glob Gl C.w0
  far : ∀ p ∈ Gl, ¬ C.F p.1
theorem Glob.fr {Gl : List (Nat × (List Value → Prop))} {G : Nat → Prop} {w w' : World} (h : Glob Gl w) (hw : Fr G w w') (hg : ∀ p ∈ Gl, ¬ G p.1) : Glob Gl w' := by
  intro p hp
  obtain ⟨cs, ty, fz, this, hcs⟩ := h p hp
  refine ⟨cs, ty, fz, ?_, hcs⟩
  rw [hw.block p.1 (Array.getElem?_eq_some_iff.1 this).1 (hg p hp)]
  exact this
theorem GC.now {P : Program} {Gl : List (Nat × (List Value → Prop))} {C : Ctx} (h : GC P Gl C) {ρ : Env} {S : AS} {a : Act} {w : World} (hs : Sat C ρ S a w) : Glob Gl w := h.glob.fr hs.frame h.far
/-- A function that turns nothing, and what it gives. -/
structure Pure (P : Program) (Gl : List (Nat × (List Value → Prop))) (f : Nat) (s : FSpec) : Prop where
  body : ∃ fn c, P.funcs[f]? = some fn ∧ fn.body = some c ∧ (fn.name == "runtime.NumGoroutine") = false
  calls : ∀ pvs p r, s.spec pvs = some (p, r) → All p → ∀ (w : World) (B : Nat → Prop) (args : List Value), Glob Gl w → All2 (ReadsV w B) args pvs →
    Calls P f args.toArray w fun e w' => ∃ v, e = .returned v ∧ Fr (fun _ => False) w w' ∧ ReadsV w' (fun b => w.heap.size ≤ b ∨ B b) v r

/-! ### the proof of one -/
def eqLs : Ls → Ls → Prop
  | .toks l, .toks l' => l = l'
  | .items l, .items l' => l = l'
  | .ivs l, .ivs l' => l = l'
  | .ints k l, .ints k' l' => bif decide (k = k') then l = l' else False
  | .strs l, .strs l' => l = l'
  | .spots l, .spots l' => l = l'
  | .elms l, .elms l' => l = l'
  | _, _ => False
theorem eqLs_eq {x y : Ls} (h : eqLs x y) : x = y := by
  cases x <;> cases y <;> first | exact h.elim | skip
  case ints.ints k l k' l' =>
    simp only [eqLs] at h
    by_cases hk : k = k'
    · subst hk; simp at h; rw [h]
    · simp [hk] at h
  all_goals exact congrArg _ h
def eqC : Pc → Pc → Prop
  | .int k n, .int k' n' => bif decide (k = k') then n = n' else False
  | .bool b, .bool b' => b = b'
  | .str s, .str s' => s = s'
  | .rd l, .rd l' => eqLs l l'
  | .nil, .nil => True
  | .iv x, .iv y => x = y
  | .fnv f l, .fnv f' l' => bif Nat.beq f f' then l = l' else False
  | _, _ => False
theorem eqC_eq {x y : Pc} (h : eqC x y) : x = y := by
  cases x <;> cases y <;> first | exact h.elim | skip
  case int.int k l k' l' =>
    simp only [eqC] at h
    by_cases hk : k = k'
    · subst hk; simp at h; rw [h]
    · simp [hk] at h
  case rd.rd => rw [eqLs_eq h]
  case nil.nil => rfl
  case fnv.fnv f l f' l' =>
    simp only [eqC] at h
    cases hk : Nat.beq f f' with
    | false => rw [hk] at h; exact h.elim
    | true =>
      rw [hk, cond_true] at h
      rw [Nat.eq_of_beq_eq_true hk, h]
  all_goals exact congrArg _ h
def eqL : List Pc → List Pc → Prop
  | [], [] => True
  | [x], [y] => eqC x y
  | x :: l, y :: l' => eqC x y ∧ eqL l l'
  | _, _ => False
theorem eqL_eq : ∀ {l l' : List Pc}, eqL l l' → l = l' := by
  intro l
  induction l with
  | nil => intro l' h; cases l' with | nil => rfl | cons _ _ => exact h.elim
  | cons x l ih =>
    intro l' h
    cases l' with
    | nil => cases l <;> exact h.elim
    | cons y l' =>
      cases l with
      | nil =>
        cases l' with
        | nil => rw [eqC_eq h]
        | cons _ _ => exact absurd h.2 (by simp [eqL])
      | cons z l =>
        have h2 : eqC x y ∧ eqL (z :: l) l' := by cases l' <;> exact h
        rw [eqC_eq h2.1, ih h2.2]
def eqT : List (Bool × List Pc) → List (Bool × List Pc) → Prop
  | [], [] => True
  | [x], [y] => bif x.1 == y.1 then eqL x.2 y.2 else False
  | x :: l, y :: l' => bif x.1 == y.1 then eqL x.2 y.2 ∧ eqT l l' else False
  | _, _ => False
theorem eqT_eq : ∀ {l l' : List (Bool × List Pc)}, eqT l l' → l = l' := by
  intro l
  induction l with
  | nil => intro l' h; cases l' with | nil => rfl | cons _ _ => exact h.elim
  | cons x l ih =>
    intro l' h
    cases l' with
    | nil => cases l <;> exact h.elim
    | cons y l' =>
      obtain ⟨b, x⟩ := x
      obtain ⟨b', y⟩ := y
      by_cases hb : b = b'
      · subst hb
        cases l with
        | nil =>
          cases l' with
          | nil =>
            have h2 : eqL x y := by simpa [eqT] using h
            rw [eqL_eq h2]
          | cons y2 l2 =>
            simp [eqT] at h
        | cons z l =>
          have h2 : eqL x y ∧ eqT (z :: l) l' := by
            cases l' with
            | nil => simp [eqT] at h
            | cons _ _ => simpa [eqT] using h
          rw [eqL_eq h2.1, ih h2.2]
      · exfalso
        cases l <;> cases l' <;> simp [eqT, hb] at h
def eqV : PV → PV → Prop
  | .one x, .one y => eqC x y
  | .agg l, .agg l' => eqL l l'
  | .tup l, .tup l' => eqT l l'
  | _, _ => False
theorem eqV_eq {x y : PV} (h : eqV x y) : x = y := by
  cases x <;> cases y <;> first | exact h.elim | skip
  · rw [eqC_eq h]
  · rw [eqL_eq h]
  · rw [eqT_eq h]
theorem eqLs_refl (x : Ls) : eqLs x x := by
  cases x <;> simp [eqLs]
def Pc.plain : Pc → Bool
  | .ref _ _ => false
  | _ => true
theorem eqC_refl {x : Pc} (h : x.plain = true) : eqC x x := by
  cases x <;> first | (cases h; done) | simp [eqC, eqLs_refl, Nat.beq_refl]
theorem eqL_refl : ∀ {l : List Pc}, l.all Pc.plain = true → eqL l l := by
  intro l
  induction l with
  | nil => intro _; trivial
  | cons x l ih =>
    intro h
    rw [List.all_cons, Bool.and_eq_true] at h
    cases l with
    | nil => exact eqC_refl h.1
    | cons y l => exact ⟨eqC_refl h.1, ih h.2⟩
theorem eqT_refl : ∀ {l : List (Bool × List Pc)}, l.all (fun x => x.2.all Pc.plain) = true → eqT l l := by
  intro l
  induction l with
  | nil => intro _; trivial
  | cons x l ih =>
    intro h
    rw [List.all_cons, Bool.and_eq_true] at h
    cases l with
    | nil =>
      show bif x.1 == x.1 then _ else _
      rw [beq_self_eq_true]; exact eqL_refl h.1
    | cons y l =>
      show bif x.1 == x.1 then _ else _
      rw [beq_self_eq_true]; exact ⟨eqL_refl h.1, ih h.2⟩
def PV.plain : PV → Bool
  | .one x => x.plain
  | .agg l => l.all Pc.plain
  | .tup l => l.all fun x => x.2.all Pc.plain
theorem eqV_refl {x : PV} (h : x.plain = true) : eqV x x := by
  cases x with
  | one x => exact eqC_refl h
  | agg l => exact eqL_refl h
  | tup l => exact eqT_refl h
def pureK (k : Kit) (rs : List ResultVar) (r : PV) : Ex → AS → Prop := retK k.tbl rs fun x S' => match absV S'.blk r x with | some r' => eqV r' r | none => False
def vcPure (k : Kit) (c : Code) (rs : List ResultVar) (A : Ann) (pvs : List PV) (r : PV) : Prop :=
  bif Nat.ble (conA 0 0 pvs).2.length 16 && Nat.ble pvs.length k.nt then vc k c A ⟨(conA 0 0 pvs).1, (conA 0 0 pvs).2, 16⟩ (pureK k rs r) else False
theorem foot_seen {C : Ctx} {ρ : Env} {w : World} {v : Value} {b : SB} (h : SBok C ρ w v b) : ∀ g, foot v b = some g → C.seen g := by
  intro g hg
  cases b with
  | read l =>
    obtain ⟨A, c, h1, h2, h3, h4⟩ := h
    simp only [foot] at hg
    split at hg
    · cases hg
    · rename_i hn
      obtain ⟨b, o, e1, e2, e3⟩ := h4 (by omega)
      subst h1; subst e1; cases hg
      exact e3
  | ro ty cs =>
    obtain ⟨g', vs, h1, h2, h3, h4⟩ := h
    have : some g' = some g := (blockOf_base h1).symm.trans hg
    cases this
    exact h4
  | cells ty cs => exact .inl (h.own rfl g hg)
  | row ty l => exact .inl (h.own rfl g hg)
  | iter s p => exact .inl (h.own rfl g hg)
  | lit ty n cs => exact .inl (h.own rfl g hg)
theorem all2_length {α β : Type} {R : α → β → Prop} {l : List α} {m : List β} (h : All2 R l m) : l.length = m.length := by
  induction h with
  | nil => rfl
  | cons _ _ ih => simp [ih]
theorem vx_pure {P : Program} {Gl : List (Nat × (List Value → Prop))} {f : Nat} {k : Kit} (fn : Func) (c : Code) (hf : P.funcs[f]? = some fn) (hb : fn.body = some c) (hn : (fn.name == "runtime.NumGoroutine") = false)
    (hm : P.follows .mixedOrders = true) (hT : tblOK P k.tbl) (hH : HookOK k.tbl (GC P Gl) k.hk) (hnt : fn.ntmps = k.nt) {s : FSpec} (A : List PV → Ann)
    (hv : ∀ pvs p r, s.spec pvs = some (p, r) → All p → vcPure k c fn.results.toList (A pvs) pvs r) : Pure P Gl f s := by
  refine ⟨⟨fn, c, hf, hb, hn⟩, fun pvs p r hs hp w B args hg ha => ?_⟩
  have h := hv pvs p r hs hp
  unfold vcPure at h
  cases hc : Nat.ble (conA 0 0 pvs).2.length 16 && Nat.ble pvs.length k.nt with
  | false => rw [hc] at h; exact h.elim
  | true =>
    rw [hc, cond_true] at h
    simp only [Bool.and_eq_true] at hc
    have c1 := Nat.le_of_ble_eq_true hc.1
    have c2 := Nat.le_of_ble_eq_true hc.2
    have hB : ∀ (C : Ctx), C.A = B → ∀ b, B b → C.seen b := fun C e b hb => .inr (by rw [e]; exact hb)
    let C0 : Ctx := ⟨P, w, fun _ => False, B, k.nt, fun _ => none⟩
    obtain ⟨ρ, g1, g2⟩ := conA_ok (C := C0) (N := 16) (hB C0 rfl) pvs args 0 0 (fun _ => none) ha (fun _ _ _ => rfl) (by omega)
    let C : Ctx := ⟨P, w, fun _ => False, B, k.nt, ρ⟩
    have hal := all2_length ha
    have hsat : St C ρ ⟨(conA 0 0 pvs).1, (conA 0 0 pvs).2, 16⟩ { tmps := args.toArray ++ Array.replicate (fn.ntmps - args.toArray.size) undef, defers := [] } w := by
      refine ⟨⟨Fr.refl _ _, ?_, rfl, ?_, fun _ _ => rfl, ?_, ?_, ?_⟩, ?_, Nat.le_refl _⟩
      · simp [C]; omega
      · intro j v hj
        rcases g1.dom j v hj with h1 | h1
        · cases h1
        · exact h1.2.2
      · intro t x hx _
        obtain ⟨i, v, e1, e2, e3⟩ := g2 t x hx
        refine ⟨v, e3, ?_⟩
        have hi := (List.getElem?_eq_some_iff.1 e2).1
        rw [e1, Nat.zero_add, Array.getElem?_append_left (by simpa using hi)]
        simpa using e2
      · intro j b hj
        unfold AS.blk at hj
        cases hl : look j (conA 0 0 pvs).2 with
        | none => rw [show look j (AS.mk (conA 0 0 pvs).1 (conA 0 0 pvs).2 16).mem = none from hl] at hj; cases hj
        | some x =>
          rw [show look j (AS.mk (conA 0 0 pvs).1 (conA 0 0 pvs).2 16).mem = some x from hl] at hj
          obtain ⟨_, _, b', u, e1, e2, e3, e4⟩ := g1.mem j x (look_mem hl)
          subst e1
          cases hj
          exact ⟨u, e3, e4⟩
      · intro j j' b b' v v' _ hj _ hmut
        exfalso
        unfold AS.blk at hj
        cases hl : look j (conA 0 0 pvs).2 with
        | none => rw [show look j (AS.mk (conA 0 0 pvs).1 (conA 0 0 pvs).2 16).mem = none from hl] at hj; cases hj
        | some x =>
          rw [show look j (AS.mk (conA 0 0 pvs).1 (conA 0 0 pvs).2 16).mem = some x from hl] at hj
          obtain ⟨_, _, b', u, e1, e2, e3, e4⟩ := g1.mem j x (look_mem hl)
          subst e1
          cases hj
          rw [e2] at hmut; cases hmut
      · intro j v hj
        rcases g1.dom j v hj with h1 | h1
        · cases h1
        · show j < 16
          omega
    have hG : GC P Gl C := ⟨rfl, hg, fun _ _ h => h⟩
    have := vc_calls (C := C) hm hT hH hG rfl (args := args.toArray) hf hb (A pvs) hsat h
    refine this.mono ?_
    rintro e w' ⟨ρ', S', a', x, v, rfl, h1, h2, h3⟩
    split at h3
    · rename_i r' hr
      have := eqV_eq h3
      subst this
      have hrd := absV_ok h1.sat (fun _ _ h => h) (B := C.seen) (fun j _ b u hb hu g hg => by
        obtain ⟨u', e1, e2⟩ := h1.sat.mem j b hb
        rw [hu] at e1; cases e1
        exact foot_seen e2 g hg) hr h2
      refine ⟨v, rfl, h1.sat.frame, hrd.mono fun b hb => ⟨?_, fun _ => rfl⟩⟩
      rcases hb with (hb | hb) | hb
      · exact .inl hb
      · exact hb.elim
      · exact .inr hb
    · exact h3.elim

/-! ### the use of some -/
def evAll (ev : Evl) : List Operand → Option (List SV)
  | [] => some []
  | x :: l => (ev x).bind fun v => (evAll ev l).map fun r => v :: r
/-- Rows that are handed out are read from now on. -/
def freeze (m : Mem) : List Nat → Option (List (Nat × Option SB))
  | [] => some []
  | k :: l =>
    match m k with
    | some (.read _) => freeze m l
    | some (.ro _ _) => freeze m l
    | some (.row _ r) => (freeze m l).map fun z => (k, some (.read r)) :: z
    | _ => none
def outPure (fr : Nat) (m : Mem) (xs : List SV) (ps : List Prop) (r : PV) : Option Out :=
  let c := conV fr r
  bif Nat.ble c.2.length 16 then
    match c.2 with
    | [] => some (ps, ⟨c.1, []⟩)
    | mem => (freeze m (namesA xs)).map fun fz => (ps, ⟨c.1, mem ++ fz⟩)
  else none
def capSV (l : List (Nat × Nat)) : List SV := l.map fun p => .one (.ptr p.1 p.2)
def calleeOf (ev : Evl) (x : Operand) : Option (Nat × List SV) :=
  match ev x with
  | some (.one (.fn f caps)) => some (f, capSV caps)
  | _ => none
def pureHook (cs : List (Nat × FSpec)) : Hook := fun fr o ev m =>
  match o.op with
  | .call ⟨.value x, args, _⟩ =>
    (calleeOf ev x).bind fun c => (look c.1 cs).bind fun s => (evAll ev args.toList).bind fun xs => (absA m s.tmpl (xs ++ c.2)).bind fun pvs => (s.spec pvs).bind fun q => outPure fr m (xs ++ c.2) q.1 q.2
  | _ => none
section
variable {C : Ctx} {tbl : Tbl} {ρ : Env} {S : AS} {a : Act} {w : World} {fr : Nat} {o : Oper} {ev : Evl} {m : Mem} {B : Nat → Prop}
theorem evAll_ok (H : Here C tbl ρ S a w fr o ev m) : ∀ {l : List Operand} {xs : List SV}, evAll ev l = some xs → All2 (fun u x => denV ρ x = some u) (l.map a.eval) xs := by
  intro l
  induction l with
  | nil => intro xs h; cases h; exact .nil
  | cons x l ih =>
    intro xs h
    simp only [evAll, Option.bind_eq_some_iff, Option.map_eq_some_iff] at h
    obtain ⟨v, h1, r, h2, rfl⟩ := h
    obtain ⟨u, h3, h4⟩ := H.val h1
    exact .cons (by rw [h4]; exact h3) (ih h2)
theorem absA_ok (h : Sat C ρ S a w) (hm : ∀ k b, m k = some b → S.blk k = some b) : ∀ {l : List SV} {ts p : List PV} {vs : List Value}, Covers ρ S B (namesA l) → absA m ts l = some p → All2 (fun u x => denV ρ x = some u) vs l → All2 (ReadsV w B) vs p := by
  intro l
  induction l with
  | nil =>
    intro ts p vs _ hp hv
    cases hv
    cases ts <;> cases hp <;> exact .nil
  | cons x l ih =>
    intro ts p vs hB hp hv
    have key : ∃ t ts', (absV m t x).bind (fun p => (absA m ts' l).map fun r => p :: r) = some p := by
      cases ts with
      | nil => exact ⟨_, _, hp⟩
      | cons t ts => exact ⟨_, _, hp⟩
    obtain ⟨t, ts', hp⟩ := key
    rw [Option.bind_eq_some_iff] at hp
    obtain ⟨q, h1, h2⟩ := hp
    rw [Option.map_eq_some_iff] at h2
    obtain ⟨r, h3, rfl⟩ := h2
    cases hv with
    | cons e1 e2 => exact .cons (absV_ok h hm (Covers.left (y := namesA l) hB) h1 e1) (ih (Covers.right (x := namesSV x) hB) h3 e2)
theorem freeze_ok : ∀ {l : List Nat} {fz : List (Nat × Option SB)}, freeze m l = some fz → (∀ k ∈ l, ∃ b, m k = some b ∧ (b.mut = false ∨ ∃ ty r, b = .row ty r ∧ (k, some (.read r)) ∈ fz)) ∧ ∀ k x, (k, x) ∈ fz → ∃ ty r, m k = some (.row ty r) ∧ x = some (.read r) := by
  intro l
  induction l with
  | nil => intro fz h; cases h; exact ⟨(fun k hk => by cases hk), fun k x hx => by cases hx⟩
  | cons j l ih =>
    intro fz h
    unfold freeze at h
    split at h
    · rename_i r hj
      obtain ⟨h1, h2⟩ := ih h
      refine ⟨fun k hk => ?_, h2⟩
      rcases List.mem_cons.1 hk with rfl | hk
      · exact ⟨_, hj, .inl rfl⟩
      · exact h1 k hk
    · rename_i ty r hj
      obtain ⟨h1, h2⟩ := ih h
      refine ⟨fun k hk => ?_, h2⟩
      rcases List.mem_cons.1 hk with rfl | hk
      · exact ⟨_, hj, .inl rfl⟩
      · exact h1 k hk
    · rename_i ty r hj
      rw [Option.map_eq_some_iff] at h
      obtain ⟨z, hz, rfl⟩ := h
      obtain ⟨h1, h2⟩ := ih hz
      refine ⟨fun k hk => ?_, fun k x hx => ?_⟩
      · rcases List.mem_cons.1 hk with rfl | hk
        · exact ⟨_, hj, .inr ⟨ty, r, rfl, List.mem_cons_self ..⟩⟩
        · obtain ⟨b, e1, e2⟩ := h1 k hk
          exact ⟨b, e1, e2.imp id fun ⟨ty, r, e3, e4⟩ => ⟨ty, r, e3, List.mem_cons_of_mem _ e4⟩⟩
      · rcases List.mem_cons.1 hx with e | hx
        · cases e; exact ⟨ty, r, hj, rfl⟩
        · exact h2 k x hx
    · cases h
theorem run_enter {P : Program} {f : Nat} {fn : Func} {c : Code} (hf : P.funcs[f]? = some fn) (hb : fn.body = some c) (hn : (fn.name == "runtime.NumGoroutine") = false) (args : Array Value) (w : World) :
    (callFunc f args).run P w = .ok (.enter f args) w := by
  have hn' : ¬ fn.name = "runtime.NumGoroutine" := by simpa using hn
  simp [callFunc, go_sem, hf, hb, hn']
theorem sbok_seen {C C' : Ctx} {ρ : Env} {w : World} {v : Value} {b : SB} (hm : b.mut = false) (h : SBok C ρ w v b) (hs : ∀ g, C.seen g → C'.seen g) : SBok C' ρ w v b := by
  cases b with
  | read l =>
    obtain ⟨A, c, h1, h2, h3, h4⟩ := h
    refine ⟨A, c, h1, h2, h3, fun hn => ?_⟩
    obtain ⟨b, o, e1, e2, e3⟩ := h4 hn
    exact ⟨b, o, e1, e2, hs b e3⟩
  | ro ty cs =>
    obtain ⟨b, vs, h1, h2, h3, h4⟩ := h
    exact ⟨b, vs, h1, h2, h3, hs b h4⟩
  | _ => cases hm
theorem in_look {α : Type} {k : Nat} {x : α} {l : List (Nat × α)} (h : (k, x) ∈ l) : look k l ≠ none := by
  intro e
  obtain ⟨y, hy⟩ := look_in (List.mem_map.2 ⟨(k, x), h, rfl⟩)
  rw [e] at hy; cases hy
theorem all2_append {α β : Type} {R : α → β → Prop} {l : List α} {m : List β} {l' : List α} {m' : List β} (h : All2 R l m) (h' : All2 R l' m') : All2 R (l ++ l') (m ++ m') := by
  induction h with
  | nil => exact h'
  | cons h1 _ ih => exact .cons h1 ih
theorem capSV_den : ∀ {caps : List (Nat × Nat)} {vs : List Value}, caps.mapM (fun (p : Nat × Nat) => denPtr ρ p.1 p.2) = some vs → All2 (fun u x => denV ρ x = some u) vs (capSV caps) := by
  intro caps
  induction caps with
  | nil => intro vs h; cases h; exact .nil
  | cons p l ih =>
    intro vs h
    rw [List.mapM_cons] at h
    cases h1 : denPtr ρ p.1 p.2 with
    | none => simp [h1] at h
    | some u =>
      cases h2 : l.mapM (fun (p : Nat × Nat) => denPtr ρ p.1 p.2) with
      | none => simp [h1, h2] at h
      | some us =>
        simp [h1, h2] at h
        subst h
        exact .cons h1 (ih h2)
theorem callee_run (H : Here C tbl ρ S a w fr o ev m) {x : Operand} {args : Array Operand} {ts : Array TypeId} (ho : o.op = .call ⟨.value x, args, ts⟩) {f : Nat} {caps : List SV} (hc : calleeOf ev x = some (f, caps)) :
    ∃ cvs, All2 (fun u x => denV ρ x = some u) cvs caps ∧ (execOp a.eval o).run C.P w = (callFunc f (args.toList.map a.eval ++ cvs).toArray).run C.P w := by
  unfold calleeOf at hc
  split at hc
  · rename_i f' cs hev
    cases hc
    obtain ⟨u, h1, h2⟩ := H.val hev
    simp only [denV, den, Option.map_eq_some_iff] at h1
    obtain ⟨vs, h3, h4⟩ := h1
    refine ⟨vs, capSV_den h3, ?_⟩
    unfold execOp
    simp only [ho, resolve, h2, ← h4, Deferred.ofValue, Sem.run_bind, Sem.run_pure, Result.andThen_ok, invoke]
    have : (#[] ++ Array.map a.eval args ++ vs.toArray : Array Value) = (List.map a.eval args.toList ++ vs).toArray := by
      apply Array.toList_inj.1
      simp
    rw [this]
  · cases hc
theorem pure_does (H : Here C tbl ρ S a w fr o ev m) {P : Program} {Gl : List (Nat × (List Value → Prop))} (hG : GC P Gl C) {f : Nat} {s : FSpec} (hP : Pure P Gl f s) {x : Operand} {args : Array Operand} {ts : Array TypeId} (ho : o.op = .call ⟨.value x, args, ts⟩) {caps : List SV} (hc : calleeOf ev x = some (f, caps))
    {xs0 xs : List SV} (hx : evAll ev args.toList = some xs0) (hxs : xs = xs0 ++ caps) {pvs : List PV} (ha : absA m s.tmpl xs = some pvs) {q : List Prop × PV} (hq : s.spec pvs = some q) {ps : List Prop} {e : Eff} (hout : outPure fr m xs q.1 q.2 = some (ps, e)) (hp : All ps) : Does C ρ S a w fr o e := by
  obtain ⟨q1, r⟩ := q
  let B : Nat → Prop := fun g => ∃ k b u, k ∈ namesA xs ∧ S.blk k = some b ∧ ρ k = some u ∧ foot u b = some g
  have hcov : Covers ρ S B (namesA xs) := fun k hk b u hb hu g hg => ⟨k, b, u, hk, hb, hu, hg⟩
  obtain ⟨cvs, hcv, hrun0⟩ := callee_run H ho hc
  have hargs : All2 (fun u x => denV ρ x = some u) (args.toList.map a.eval ++ cvs) xs := by rw [hxs]; exact all2_append (evAll_ok H hx) hcv
  have hreads := absA_ok (B := B) H.sat H.mem hcov ha hargs
  obtain ⟨⟨fn, c, hf, hb, hn⟩, hcalls⟩ := hP
  have hrun : (execOp a.eval o).run C.P w = .ok (.enter f (args.toList.map a.eval ++ cvs).toArray) w := by
    rw [hrun0, hG.prog]
    exact run_enter hf hb hn _ w
  have hqp : ps = q1 ∧ (e = ⟨(conV fr r).1, []⟩ ∧ (conV fr r).2 = [] ∨ ∃ fz, freeze m (namesA xs) = some fz ∧ e = ⟨(conV fr r).1, (conV fr r).2 ++ fz⟩) ∧ (conV fr r).2.length ≤ 16 := by
    unfold outPure at hout
    simp only at hout
    cases hc : Nat.ble (conV fr r).2.length 16 with
    | false => rw [hc] at hout; cases hout
    | true =>
      rw [hc, cond_true] at hout
      split at hout
      · rename_i hnil; cases hout; exact ⟨rfl, .inl ⟨rfl, hnil⟩, by rw [hnil]; simp⟩
      · rw [Option.map_eq_some_iff] at hout
        obtain ⟨fz, h1, h2⟩ := hout
        cases h2
        exact ⟨rfl, .inr ⟨fz, h1, rfl⟩, Nat.le_of_ble_eq_true hc⟩
  obtain ⟨rfl, hcase, hlen⟩ := hqp
  intro K Q hK
  unfold Oper.wp
  rw [hrun, Oper.upon_enter, hG.prog]
  refine (hcalls pvs ps r hq hp w B _ (hG.now H.sat) hreads).mono ?_
  rintro en w' ⟨v, rfl, hfr, hrd⟩
  have hfrF : Fr (fun _ => False) w w' := hfr
  have hsz0 : C.w0.heap.size ≤ w.heap.size := H.sat.frame.size
  have hBseen : ∀ b, (w.heap.size ≤ b ∨ B b) → C.seen b := by
    rintro b (hb | ⟨k, sb, u, _, h1, h2, h3⟩)
    · exact .inl (.inl (Nat.le_trans hsz0 hb))
    · obtain ⟨u', e1, e2⟩ := H.sat.mem k sb h1
      rw [h2] at e1; cases e1
      exact foot_seen e2 b h3
  let C2 : Ctx := ⟨C.P, w, B, fun _ => False, 0, fun _ => none⟩
  have hC2 : ∀ g, C2.seen g → w.heap.size ≤ g ∨ B g := by
    rintro g ((h1 | h1) | h1)
    · exact .inl h1
    · exact .inr h1
    · exact h1.elim
  obtain ⟨ρ', hcon, hden⟩ := conV_ok (C := C2) (N := fr + 16) (fun b hb => .inl hb) hrd (n := fr) (ρ := ρ) (fun k h1 h2 => H.fresh k h1 h2) (by omega)
  have hdom : Dom ρ ρ' fr := fun k u hk => by
    rcases hcon.dom k u hk with h1 | h1
    · exact .inl ⟨u, h1⟩
    · exact .inr ⟨h1.1, by omega⟩
  refine hK ρ' _ w' hcon.le hdom ?_
  have hdst : e.dst = (conV fr r).1 := by
    rcases hcase with ⟨rfl, _⟩ | ⟨fz, _, rfl⟩ <;> rfl
  -- what is said of e's memory
  have hnew : ∀ k b, look k e.mem = some (some b) → b.mut = false ∧ ((fr ≤ k ∧ ∃ u, ρ' k = some u ∧ SBok C2 ρ' w' u b) ∨ ∃ ty l, b = .read l ∧ m k = some (.row ty l)) := by
    intro k b hl
    rcases hcase with ⟨rfl, _⟩ | ⟨fz, h1, rfl⟩
    · cases hl
    · rcases List.mem_append.1 (look_mem hl) with hmem | hmem
      · obtain ⟨g1, g2, b', u, e1, e2, e3, e4⟩ := hcon.mem k _ hmem
        cases e1
        exact ⟨e2, .inl ⟨g1, u, e3, e4⟩⟩
      · obtain ⟨ty, l, g1, g2⟩ := (freeze_ok h1).2 k _ hmem
        cases g2
        exact ⟨rfl, .inr ⟨ty, l, rfl, g1⟩⟩
  have hold : ∀ k b u, S.blk k = some b → ρ k = some u → SBok C ρ' w' u b := fun k b u hb hu => by
    obtain ⟨u', e1, e2⟩ := H.sat.mem k b hb
    rw [hu] at e1; cases e1
    exact e2.fr hcon.le hfrF fun _ _ h => h
  have hnone : ∀ k x, look k e.mem = some x → x ≠ none := by
    intro k x hl hx
    subst hx
    rcases hcase with ⟨rfl, _⟩ | ⟨fz, h1, rfl⟩
    · cases hl
    · rcases List.mem_append.1 (look_mem hl) with hmem | hmem
      · obtain ⟨g1, g2, b', u, e1, _⟩ := hcon.mem k _ hmem
        cases e1
      · obtain ⟨ty, l, g1, g2⟩ := (freeze_ok h1).2 k _ hmem
        cases g2
  refine H.sat.step (G := fun _ => False) o.dst e v hcon.le ?_ ?_ hfrF (fun _ h => h.elim) (fun _ _ => by rw [hdst]; exact hden) H.dst (fun _ _ _ _ _ _ _ _ h => h) ?_ ?_
  · intro k u hk
    rcases hcon.dom k u hk with h1 | h1
    · exact H.sat.one k u h1
    · exact h1.2.2
  · intro k hk
    cases hr : ρ k with
    | some u => exact hcon.le k u hr
    | none =>
      cases hr' : ρ' k with
      | none => rfl
      | some u =>
        rcases hcon.dom k u hr' with h1 | h1
        · rw [hr] at h1; cases h1
        · have := H.fr16; omega
  · intro k b hl
    rcases (hnew k b hl).2 with ⟨_, u, h1, h2⟩ | ⟨ty, l, rfl, h1⟩
    · exact ⟨u, h1, sbok_seen (hnew k b hl).1 h2 fun g hg => hBseen g (hC2 g hg)⟩
    · obtain ⟨u, e1, e2⟩ := H.sat.mem k _ (H.mem k _ h1)
      exact ⟨u, hcon.le k u e1, read_of_row (hold k _ u (H.mem k _ h1) e1)⟩
  · intro k b u k' b' u' hl hu hne hk' hu' hmut
    obtain ⟨hbm, hcases⟩ := hnew k b hl
    rcases hmut with hmut | hmut
    · rw [hbm] at hmut; cases hmut
    rcases hk' with hk' | ⟨hk1, hk2⟩
    · rw [(hnew k' b' hk').1] at hmut; cases hmut
    obtain ⟨u1, e1, e2⟩ := H.sat.mem k' b' hk2
    have : u1 = u' := by have := hcon.le k' u1 e1; rw [hu'] at this; exact (Option.some.inj this).symm
    subst this
    rcases hcases with ⟨hkfr, u2, f1, f2⟩ | ⟨ty, l, rfl, h1⟩
    · rw [hu] at f1; cases f1
      intro g hg hg'
      have hlt := e2.lt g hg'
      -- where g comes from
      have hrd' : w.heap.size ≤ g ∨ B g := hC2 g (foot_seen f2 g hg)
      rcases hrd' with h1 | ⟨k2, b2, u2, q1, q2, q3, q4⟩
      · omega
      · by_cases hk2k : k2 = k'
        · subst hk2k
          rw [hk2] at q2; cases q2
          rcases hcase with ⟨rfl, _⟩ | ⟨fz, h1, rfl⟩
          · cases hl
          · obtain ⟨b3, r1, r2⟩ := (freeze_ok h1).1 k2 q1
            have := H.mem k2 b3 r1
            rw [hk2] at this; cases this
            rcases r2 with r2 | ⟨ty, rr, rfl, r3⟩
            · rw [r2] at hmut; cases hmut
            · exact in_look (List.mem_append_right _ r3) hk1
        · exact H.sat.apart k' k2 b' b2 u1 u2 (Ne.symm hk2k) hk2 q2 hmut e1 q3 g hg' q4
    · have hb := H.mem k _ h1
      obtain ⟨u2, f1, f2⟩ := H.sat.mem k _ hb
      have : u2 = u := by have := hcon.le k u2 f1; rw [hu] at this; exact (Option.some.inj this).symm
      subst this
      intro g hg hg'
      refine H.sat.apart k' k b' _ u1 u2 hne hk2 hb hmut e1 f1 g hg' ?_
      simp only [foot] at hg ⊢
      split at hg
      · cases hg
      · exact hg
theorem pureHook_ok {P : Program} {Gl : List (Nat × (List Value → Prop))} {cs : List (Nat × FSpec)} (h : ∀ f s, look f cs = some s → Pure P Gl f s) : HookOK tbl (GC P Gl) (pureHook cs) := by
  intro C ρ S a w fr o ev m H hG ps e hk hp
  unfold pureHook at hk
  split at hk
  · rename_i x args ts ho
    simp only [Option.bind_eq_some_iff] at hk
    obtain ⟨c, h0, s, h1, xs, h2, pvs, h3, q, h4, h5⟩ := hk
    exact pure_does H hG (h c.1 s h1) ho h0 h2 rfl h3 h4 h5 hp
  · cases hk
end
end Go.Proofs.YtglfkihckkjniaaGreatDoor.Vx
