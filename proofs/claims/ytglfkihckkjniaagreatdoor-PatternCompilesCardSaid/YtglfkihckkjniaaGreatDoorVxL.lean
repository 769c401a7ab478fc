/-
VX, part L: what must hold of a function's code; its call. No statement of the seat is proved here.
-/
import Derived.Test.YtglfkihckkjniaaGreatDoorVxN
import Derived.Deep.LoopGhost
set_option linter.unusedVariables false
set_option linter.unusedSimpArgs false
namespace Go.Proofs.YtglfkihckkjniaaGreatDoor.Vx
open Go Go.RowKit

inductive Ex where
  | nrm
  | ext (id : Nat)
  | ret
/-- What is told beside the code: loops' and meeting points' states. -/
inductive Ann : Type 1 where
  | nil
  | loop (key : Nat) (X : Type) (I : X → AS) (μ : X → Nat) (body : X → Ann) (rest : Ann)
  | cut (key : Nat) (X : Type) (J : X → AS) (tail : X → Ann) (rest : Ann)
  | dec (t : Nat) (v : Bool) (rest : Ann)
  | turns (key n : Nat) (body : Nat → Ann) (rest : Ann)
structure LoopA where
  X : Type
  I : X → AS
  μ : X → Nat
  body : X → Ann
structure CutA where
  X : Type
  J : X → AS
  tail : X → Ann
def Ann.loopAt (k : Nat) : Ann → Option LoopA
  | .nil => none
  | .loop key X I μ b r => bif Nat.beq key k then some ⟨X, I, μ, b⟩ else r.loopAt k
  | .cut _ _ _ _ r => r.loopAt k
  | .dec _ _ r => r.loopAt k
  | .turns _ _ _ r => r.loopAt k
def Ann.cutAt (k : Nat) : Ann → Option CutA
  | .nil => none
  | .loop _ _ _ _ _ r => r.cutAt k
  | .cut key X J t r => bif Nat.beq key k then some ⟨X, J, t⟩ else r.cutAt k
  | .dec _ _ r => r.cutAt k
  | .turns _ _ _ r => r.cutAt k
def Ann.decAt (t : Nat) : Ann → Option Bool
  | .nil => none
  | .loop _ _ _ _ _ r => r.decAt t
  | .cut _ _ _ _ r => r.decAt t
  | .dec t' v r => bif Nat.beq t' t then some v else r.decAt t
  | .turns _ _ _ r => r.decAt t
def Ann.turnsAt (k : Nat) : Ann → Option (Nat × (Nat → Ann))
  | .nil => none
  | .loop _ _ _ _ _ r => r.turnsAt k
  | .cut _ _ _ _ r => r.turnsAt k
  | .dec _ _ r => r.turnsAt k
  | .turns key n b r => bif Nat.beq key k then some (n, b) else r.turnsAt k
def firstReg : Code → Option Nat
  | .region id _ _ => some id
  | .seq a b => match firstReg a with | some x => some x | none => firstReg b
  | .cond _ a b => match firstReg a with | some x => some x | none => firstReg b
  | .block _ c => firstReg c
  | .loop c => firstReg c
  | .scope c => firstReg c
  | _ => none
def opOf : Operand → Option Nat
  | .tmp t => some t
  | _ => none
structure Kit where
  tbl : Tbl
  hk : Hook
  nt : Nat
def AS.bump (S : AS) (n : Nat) : AS := { S with next := n }
def Ent16 (S I : AS) : Prop := bif Nat.ble 16 I.next then Ent S I else False
def vc (k : Kit) : Code → Ann → AS → (Ex → AS → Prop) → Prop
  | .skip, _, S, K => K .nrm S
  | .label _, _, S, K => K .nrm S
  | .region _ ops draw, _, S, K => bif draw then vcDraw k.tbl k.hk k.nt ops.toList S fun S' => K .nrm (S'.bump (S.next + 16 * ops.size)) else vcOps k.tbl k.hk k.nt ops.toList ops.toList S.next S fun S' => K .nrm (S'.bump (S.next + 16 * ops.size))
  | .seq x y, A, S, K =>
    match (firstReg y).bind fun r => A.cutAt r with
    | some ⟨X, J, tail⟩ => vc k x A S (fun e S' => match e with | .nrm => ∃ j : X, Ent16 S' (J j) | e => K e S') ∧ ∀ j : X, vc k y (tail j) (J j) K
    | none => vc k x A S fun e S' => match e with | .nrm => vc k y A S' K | e => K e S'
  | .cond c x y, A, S, K =>
    match S.ev c with
    | some (.one .tt) => vc k x A S K
    | some (.one .ff) => vc k y A S K
    | some (.one (.bool b)) =>
      match (opOf c).bind fun t => A.decAt t with
      | some true => b = true ∧ vc k x A S K
      | some false => b = false ∧ vc k y A S K
      | none => br b (vc k x A S K) (vc k y A S K)
    | _ => False
  | .block id c, A, S, K => vc k c A S fun e S' => match e with | .ext i => bif Nat.beq i id then K .nrm S' else K (.ext i) S' | e => K e S'
  | .loop c, A, S, K =>
    match (firstReg c).bind fun r => A.loopAt r with
    | some ⟨X, I, μ, body⟩ => (∃ x : X, Ent16 S (I x)) ∧ ∀ x : X, vc k c (body x) (I x) fun e S' => match e with | .nrm => ∃ x' : X, Ent16 S' (I x') ∧ μ x' < μ x | e => K e S'
    | none =>
      match (firstReg c).bind fun r => A.turnsAt r with
      | some (n, body) => Nat.rec (motive := fun _ => Nat → AS → Prop) (fun _ _ => False) (fun _ ih i S => vc k c (body i) S fun e S' => match e with | .nrm => ih (i + 1) S' | e => K e S') n 0 S
      | none => False
  | .exit id, _, S, K => K (.ext id) S
  | .ret, _, S, K => K .ret S
  | _, _, _, _ => False

section
variable {C : Ctx} {k : Kit} {G : Ctx → Prop}
structure St (C : Ctx) (ρ : Env) (S : AS) (a : Act) (w : World) : Prop where
  sat : Sat C ρ S a w
  dom : DomLt ρ S.next
  n16 : 16 ≤ S.next
def Post (C : Ctx) (K : Ex → AS → Prop) : Exit → Act → World → Prop
  | .normal, a, w => ∃ ρ S, St C ρ S a w ∧ K .nrm S
  | .exit id, a, w => ∃ ρ S, St C ρ S a w ∧ K (.ext id) S
  | .ret, a, w => ∃ ρ S, St C ρ S a w ∧ K .ret S
  | _, _, _ => False
theorem Ent16_sound {ρ : Env} {S I : AS} {a : Act} {w : World} (h : St C ρ S a w) (he : Ent16 S I) : ∃ ρ', St C ρ' I a w := by
  unfold Ent16 at he
  cases h16 : Nat.ble 16 I.next with
  | false => rw [h16] at he; exact he.elim
  | true =>
    rw [h16, cond_true] at he
    have hn := Nat.le_of_ble_eq_true h16
    obtain ⟨ρ', h1, h2⟩ := Ent_sound h.sat he hn
    exact ⟨ρ', h1, h2, hn⟩
theorem Sat.bump {ρ : Env} {S : AS} {a : Act} {w : World} (h : Sat C ρ S a w) (n : Nat) : Sat C ρ (S.bump n) a w := ⟨h.frame, h.tsize, h.defers, h.one, h.pin, h.slots, h.mem, h.apart⟩
theorem vc_sound (hm : C.P.follows .mixedOrders = true) (hT : tblOK C.P k.tbl) (hH : HookOK k.tbl G k.hk) (hG : G C) (hnt : k.nt = C.nt) : ∀ (c : Code) (A : Ann) (S : AS) (K : Ex → AS → Prop), vc k c A S K → ∀ {ρ : Env} {a : Act} {w : World}, St C ρ S a w → c.wp C.P (Post C K) a w := by
  intro c
  induction c with
  | skip => intro A S K hv ρ a w h; exact wp_skip ⟨ρ, S, h, hv⟩
  | label l => intro A S K hv ρ a w h; exact wp_label ⟨ρ, S, h, hv⟩
  | exit id => intro A S K hv ρ a w h; exact wp_exit ⟨ρ, S, h, hv⟩
  | ret => intro A S K hv ρ a w h; exact wp_ret ⟨ρ, S, h, hv⟩
  | region id ops draw =>
    intro A S K hv ρ a w h
    unfold vc at hv
    cases draw with
    | true =>
      rw [cond_true, hnt] at hv
      refine vc_region_draw hm hT hH hG h.sat h.dom h.n16 hv ?_
      intro ρ' S' a' w' h1 h2 h3
      exact ⟨ρ', _, ⟨h1.bump _, h2, by show 16 ≤ S.next + _; have := h.n16; omega⟩, h3⟩
    | false =>
      rw [cond_false, hnt] at hv
      refine vc_region_text hT hH hG h.sat h.dom h.n16 hv ?_
      intro ρ' S' a' w' h1 h2 h3
      exact ⟨ρ', _, ⟨h1.bump _, h2, by show 16 ≤ S.next + _; have := h.n16; omega⟩, h3⟩
  | seq x y ihx ihy =>
    intro A S K hv ρ a w h
    unfold vc at hv
    split at hv
    · rename_i X J tail hc
      refine wp_seq (wp_mono (ihx A S _ hv.1 h) ?_)
      intro e a' w' hq
      cases e with
      | normal =>
        obtain ⟨ρ', S', h1, j, h2⟩ := hq
        obtain ⟨ρ'', h3⟩ := Ent16_sound h1 h2
        exact ihy (tail j) (J j) K (hv.2 j) h3
      | exit id => exact hq
      | ret => exact hq
      | goto l => exact hq
      | panic ch => exact hq
      | outgrown => exact hq
    · refine wp_seq (wp_mono (ihx A S _ hv h) ?_)
      intro e a' w' hq
      cases e with
      | normal =>
        obtain ⟨ρ', S', h1, h2⟩ := hq
        exact ihy A S' K h2 h1
      | exit id => exact hq
      | ret => exact hq
      | goto l => exact hq
      | panic ch => exact hq
      | outgrown => exact hq
  | cond cc x y ihx ihy =>
    intro A S K hv ρ a w h
    unfold vc at hv
    split at hv
    · rename_i he
      obtain ⟨u, h1, h2⟩ := h.sat.ev he
      cases h1
      exact wp_cond_true h2 (ihx A S K hv h)
    · rename_i he
      obtain ⟨u, h1, h2⟩ := h.sat.ev he
      cases h1
      exact wp_cond_false h2 (ihy A S K hv h)
    · rename_i b he
      obtain ⟨u, h1, h2⟩ := h.sat.ev he
      cases h1
      split at hv
      · obtain ⟨rfl, hv⟩ := hv
        exact wp_cond_true h2 (ihx A S K hv h)
      · obtain ⟨rfl, hv⟩ := hv
        exact wp_cond_false h2 (ihy A S K hv h)
      · exact wp_cond_split h2 (fun hb => ihx A S K ((br_iff.1 hv).1 hb) h) (fun hb => ihy A S K ((br_iff.1 hv).2 hb) h)
    · exact hv.elim
  | block id c ih =>
    intro A S K hv ρ a w h
    unfold vc at hv
    refine wp_block (wp_mono (ih A S _ hv h) ?_)
    intro e a' w' hq
    cases e with
    | normal => exact hq
    | exit i =>
      obtain ⟨ρ', S', h1, h2⟩ := hq
      show if i = id then _ else _
      simp only at h2
      cases hb : Nat.beq i id with
      | true =>
        rw [hb, cond_true] at h2
        rw [if_pos (Nat.eq_of_beq_eq_true hb)]
        exact ⟨ρ', S', h1, h2⟩
      | false =>
        rw [hb, cond_false] at h2
        rw [if_neg (by rintro rfl; rw [Nat.beq_refl] at hb; cases hb)]
        exact ⟨ρ', S', h1, h2⟩
    | ret => exact hq
    | goto l => exact hq
    | panic ch => exact hq
    | outgrown => exact hq
  | loop c ih =>
    intro A S K hv ρ a w h
    unfold vc at hv
    split at hv
    · rename_i X I μ body hl
      obtain ⟨⟨x0, hx0⟩, hround⟩ := hv
      obtain ⟨ρ0, h0⟩ := Ent16_sound h hx0
      refine wp_loop_ghost (fun n a w => ∃ x ρ, μ x = n ∧ St C ρ (I x) a w) (μ x0) ⟨x0, ρ0, rfl, h0⟩ ?_
      rintro n a w ⟨x, ρ, rfl, hx⟩
      refine wp_mono (ih (body x) (I x) _ (hround x) hx) ?_
      intro e a' w' hq
      cases e with
      | normal =>
        obtain ⟨ρ', S', h1, x', h2, h3⟩ := hq
        obtain ⟨ρ'', h4⟩ := Ent16_sound h1 h2
        exact ⟨μ x', h3, x', ρ'', rfl, h4⟩
      | exit id => exact hq
      | ret => exact hq
      | goto l => exact hq
      | panic ch => exact hq
      | outgrown => exact hq
    · split at hv
      · rename_i n body hb
        clear hb
        refine wp_loop_rounds n ?_
        generalize 0 = i at hv
        induction n generalizing i S ρ a w with
        | zero => exact hv.elim
        | succ n ihn =>
          rw [rounds_succ]
          refine wp_mono (ih (body i) S _ hv h) ?_
          intro e a' w' hq
          cases e with
          | normal =>
            obtain ⟨ρ', S', h1, h2⟩ := hq
            exact ihn S' h1 (i + 1) h2
          | exit id => exact hq
          | ret => exact hq
          | goto l => exact hq
          | panic ch => exact hq
          | outgrown => exact hq
      · exact hv.elim
  | goto l => intro A S K hv; exact hv.elim
  | scope c _ => intro A S K hv; exact hv.elim
  | rangeFunc f ps x y _ _ => intro A S K hv; exact hv.elim
  | refuse why => intro A S K hv; exact hv.elim

/-! ### results -/
def resOf (tbl : Tbl) (S : AS) : ResultVar → Option (Bool × List SC)
  | .tmp t => match S.ev (.tmp t) with
    | some (.one x) => some (false, [x])
    | some (.agg l) => some (true, l)
    | _ => none
  | .cell t T => match look T tbl, S.ev (.tmp t) with
    | some i, some (.one (.ptr k off)) =>
      match S.blk k with
      | some (.cells _ cs) => bif Nat.ble (off + i.size) cs.length then match i.agg, (cs.drop off).take i.size with
          | true, l => some (true, l)
          | false, [x] => some (false, [x])
          | false, _ => none
        else none
      | _ => none
    | _, _ => none
def resAll (tbl : Tbl) (S : AS) : List ResultVar → Option (List (Bool × List SC))
  | [] => some []
  | r :: l => (resOf tbl S r).bind fun x => (resAll tbl S l).map fun xs => x :: xs
def resSV : List (Bool × List SC) → SV
  | [(true, l)] => .agg l
  | [(false, [x])] => .one x
  | l => .tup l
def retK (tbl : Tbl) (rs : List ResultVar) (R : SV → AS → Prop) : Ex → AS → Prop := fun e S =>
  match e with
  | .ext _ => False
  | _ => match resAll tbl S rs with
    | some xs => R (resSV xs) S
    | none => False
def oneRes (tmps : Array Value) : ResultVar → Sem Value
  | .tmp t => pure (tmps.getD t undef)
  | .cell a t => do loadVar t (← asAddr (tmps.getD a undef))
theorem resOf_run (hT : tblOK C.P k.tbl) {ρ : Env} {S : AS} {a : Act} {w : World} (h : Sat C ρ S a w) {r : ResultVar} {x : Bool × List SC} (hx : resOf k.tbl S r = some x) :
    ∃ v, (oneRes a.tmps r).run C.P w = .ok v w ∧ denC ρ x = some v := by
  cases r with
  | tmp t =>
    simp only [resOf] at hx
    split at hx
    · rename_i y he
      cases hx
      obtain ⟨u, h1, h2⟩ := h.ev he
      exact ⟨u, by simp only [Act.eval] at h2; simp only [oneRes, Sem.run_pure, h2], h1⟩
    · rename_i l he
      cases hx
      obtain ⟨u, h1, h2⟩ := h.ev he
      exact ⟨u, by simp only [Act.eval] at h2; simp only [oneRes, Sem.run_pure, h2], h1⟩
    · cases hx
  | cell t T =>
    simp only [resOf] at hx
    split at hx
    · rename_i i kk off hi he
      split at hx
      · rename_i ty cs hb
        cases hle : Nat.ble (off + i.size) cs.length with
        | false => rw [hle] at hx; cases hx
        | true =>
          rw [hle, cond_true] at hx
          have hle' := Nat.le_of_ble_eq_true hle
          obtain ⟨u, h1, h2⟩ := h.ev he
          obtain ⟨y, hy, b, vs, g1, g2, g3, g4⟩ := h.mem kk _ hb
          have hvl := denL_length g2
          simp only [denV, den, denPtr, hy, Option.bind_some, g1, Option.map_some, Option.some.injEq] at h1
          subst h1
          obtain ⟨inf, d, z, tt⟩ := tbl_get hT hi
          have hc : ∀ j v, ((vs.drop off).take i.size)[j]? = some v → w.cell? ⟨b, off + j, none⟩ = some v := by
            intro j v hv
            have hj : j < i.size := by
              have := (List.getElem?_eq_some_iff.1 hv).1
              simp at this; omega
            rw [List.getElem?_take, if_pos hj, List.getElem?_drop] at hv
            simp [World.cell?, g3, hv]
          have hden := denL_take (denL_drop g2 off) i.size
          have hlen : ((vs.drop off).take i.size).length = i.size := by simp; omega
          simp only [Act.eval] at h2
          simp only [oneRes, h2, Sem.run_bind, asAddr, Sem.run_pure, Result.andThen_ok]
          cases ha : i.agg with
          | true =>
            rw [ha] at hx
            simp only [Option.some.injEq] at hx
            subst hx
            obtain ⟨v, q1, q2⟩ := run_loadVar_list tt (sv := .agg ((cs.drop off).take i.size)) (by rw [ha]; rfl) hden hlen w b off hc
            exact ⟨v, q1, q2⟩
          | false =>
            rw [ha] at hx
            cases hl : (cs.drop off).take i.size with
            | nil => rw [hl] at hx; cases hx
            | cons x' r =>
              cases r with
              | cons _ _ => rw [hl] at hx; cases hx
              | nil =>
                rw [hl] at hx
                simp only [Option.some.injEq] at hx
                subst hx
                obtain ⟨v, q1, q2⟩ := run_loadVar_list tt (sv := .one x') (by rw [ha, hl]; rfl) hden hlen w b off hc
                exact ⟨v, q1, q2⟩
      · cases hx
    · cases hx
theorem resAll_run (hT : tblOK C.P k.tbl) {ρ : Env} {S : AS} {a : Act} {w : World} (h : Sat C ρ S a w) : ∀ {rs : List ResultVar} {xs : List (Bool × List SC)}, resAll k.tbl S rs = some xs →
    ∃ vs : List Value, (rs.mapM (oneRes a.tmps)).run C.P w = .ok vs w ∧ xs.mapM (denC ρ) = some vs := by
  intro rs
  induction rs with
  | nil => intro xs hx; cases hx; exact ⟨[], rfl, rfl⟩
  | cons r rs ih =>
    intro xs hx
    simp only [resAll, Option.bind_eq_some_iff, Option.map_eq_some_iff] at hx
    obtain ⟨x, h1, xs', h2, rfl⟩ := hx
    obtain ⟨v, h3, h4⟩ := resOf_run hT h h1
    obtain ⟨vs, h5, h6⟩ := ih h2
    refine ⟨v :: vs, ?_, by rw [List.mapM_cons]; simp [h4, h6]⟩
    rw [List.mapM_cons, Sem.run_bind, h3, Result.andThen_ok, Sem.run_bind, h5]
    rfl
theorem resSV_den {ρ : Env} : ∀ (xs : List (Bool × List SC)) (vs : List Value), xs.mapM (denC ρ) = some vs → denV ρ (resSV xs) = some (if h : vs.toArray.size = 1 then vs.toArray[0] else .tuple vs.toArray) := by
  intro xs vs h
  cases xs with
  | nil => cases h; rfl
  | cons x xs =>
    have h0 := h
    rw [List.mapM_cons] at h
    cases hx : denC ρ x with
    | none => simp [hx] at h
    | some v =>
      rw [hx] at h
      cases hxs : xs.mapM (denC ρ) with
      | none => simp [hxs] at h
      | some us =>
        simp [hxs] at h
        subst h
        cases xs with
        | nil =>
          cases hxs
          rw [dif_pos (by simp)]
          obtain ⟨b, l⟩ := x
          cases b with
          | true => simpa [resSV, denC, denV] using hx
          | false =>
            match l, hx with
            | [y], hx => simpa [resSV, denC, denV] using hx
            | [], hx => simp [denC] at hx
            | _ :: _ :: _, hx => simp [denC] at hx
        | cons y ys =>
          have hu : us ≠ [] := by
            rintro rfl
            rw [List.mapM_cons] at hxs
            cases hy : denC ρ y with
            | none => simp [hy] at hxs
            | some q => cases hq : ys.mapM (denC ρ) <;> simp [hy, hq] at hxs
          have hne : ¬ (v :: us).toArray.size = 1 := by
            cases us with
            | nil => exact absurd rfl hu
            | cons _ _ => simp
          rw [dif_neg hne]
          have : resSV (x :: y :: ys) = .tup (x :: y :: ys) := by
            obtain ⟨b, q⟩ := x
            cases b
            · match q with
              | [] => rfl
              | [_] => rfl
              | _ :: _ :: _ => rfl
            · rfl
          rw [this]
          simp only [denV, h0, Option.map_some]
theorem results_run (hT : tblOK C.P k.tbl) {ρ : Env} {S : AS} {a : Act} {w : World} (h : Sat C ρ S a w) {fn : Func} {xs : List (Bool × List SC)} (hx : resAll k.tbl S fn.results.toList = some xs) :
    ∃ v, (results fn a.tmps).run C.P w = .ok v w ∧ denV ρ (resSV xs) = some v := by
  obtain ⟨vs, h1, h2⟩ := resAll_run hT h hx
  refine ⟨_, ?_, resSV_den xs vs h2⟩
  have he : results fn a.tmps = (do let vs ← fn.results.mapM (oneRes a.tmps); pure (if h : vs.size = 1 then vs[0] else .tuple vs)) := by
    unfold results
    congr 1
  have : (fn.results.mapM (oneRes a.tmps)).run C.P w = .ok vs.toArray w := by
    rw [Array.mapM_eq_mapM_toList, Sem.run_map, h1]
    rfl
  rw [he, Sem.run_bind, this]
  rfl
/-- A function's code gives what its abstract run gives. -/
theorem vc_calls (hm : C.P.follows .mixedOrders = true) (hT : tblOK C.P k.tbl) (hH : HookOK k.tbl G k.hk) (hG : G C) (hnt : k.nt = C.nt) {f : FuncId} {fn : Func} {c : Code} (hf : C.P.funcs[f]? = some fn) (hb : fn.body = some c)
    {args : Array Value} {w : World} {ρ : Env} {S : AS} (A : Ann) {R : SV → AS → Prop} (h : St C ρ S { tmps := args ++ Array.replicate (fn.ntmps - args.size) undef, defers := [] } w)
    (hv : vc k c A S (retK k.tbl fn.results.toList R)) :
    Calls C.P f args w fun e w' => ∃ ρ' S' a' x v, e = .returned v ∧ St C ρ' S' a' w' ∧ denV ρ' x = some v ∧ R x S' := by
  refine calls_of_wp hf hb (wp_mono (vc_sound hm hT hH hG hnt c A S _ hv h) ?_)
  have fin : ∀ (e : Ex) (a' : Act) (w' : World), e ≠ .ext 0 → (∃ ρ' S', St C ρ' S' a' w' ∧ retK k.tbl fn.results.toList R e S') → a'.defers = [] ∧ ∃ v, (results fn a'.tmps).run C.P w' = .ok v w' ∧ ∃ ρ' S' a' x v', Ending.returned v = .returned v' ∧ St C ρ' S' a' w' ∧ denV ρ' x = some v' ∧ R x S' := by
    rintro e a' w' _ ⟨ρ', S', h1, h2⟩
    unfold retK at h2
    split at h2
    · exact h2.elim
    · split at h2
      · rename_i xs hx
        obtain ⟨v, g1, g2⟩ := results_run hT h1.sat hx
        exact ⟨h1.sat.defers, v, g1, ρ', S', a', _, v, rfl, h1, g2, h2⟩
      · exact h2.elim
  intro e a' w' hq
  cases e with
  | normal => exact fin .nrm a' w' (by simp) hq
  | ret => exact fin .ret a' w' (by simp) hq
  | exit id =>
    obtain ⟨ρ', S', h1, h2⟩ := hq
    exact h2.elim
  | goto l => exact hq.elim
  | panic ch => exact hq.elim
  | outgrown => exact hq.elim
end
end Go.Proofs.YtglfkihckkjniaaGreatDoor.Vx
