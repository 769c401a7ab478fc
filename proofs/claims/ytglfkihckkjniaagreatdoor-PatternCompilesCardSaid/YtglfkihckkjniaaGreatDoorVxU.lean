/-
VX, part U: contracts of functions that turn memory of the caller's. No statement of the seat is proved here.
-/
import Derived.Test.YtglfkihckkjniaaGreatDoorVxQ
set_option linter.unusedVariables false
set_option linter.unusedSimpArgs false
namespace Go.Proofs.YtglfkihckkjniaaGreatDoor.Vx
open Go Go.RowKit

/-! ### names for names -/
abbrev Rn := Nat → Option Nat
def mpCaps (g : Rn) : List (Nat × Nat) → Option (List (Nat × Nat))
  | [] => some []
  | (k, f) :: l => (g k).bind fun j => (mpCaps g l).map fun r => (j, f) :: r
def mpSC (g : Rn) (x : SC) : Option SC :=
  match x with
  | .ptr k f => (g k).map fun j => .ptr j f
  | .slc k => (g k).map fun j => .slc j
  | .ept k i sz f => (g k).map fun j => .ept j i sz f
  | .mp k b => (g k).map fun j => .mp j b
  | .fn f l => (mpCaps g l).map fun r => .fn f r
  | .und => none
  | x => some x
def mpL (g : Rn) : List SC → Option (List SC)
  | [] => some []
  | x :: l => (mpSC g x).bind fun y => (mpL g l).map fun r => y :: r
def mpT (g : Rn) : List (Bool × List SC) → Option (List (Bool × List SC))
  | [] => some []
  | x :: l => (mpL g x.2).bind fun y => (mpT g l).map fun r => (x.1, y) :: r
def mpSV (g : Rn) (x : SV) : Option SV :=
  match x with
  | .one x => (mpSC g x).map .one
  | .agg l => (mpL g l).map .agg
  | .tup l => (mpT g l).map .tup
def mpAll (g : Rn) : List SV → Option (List SV)
  | [] => some []
  | x :: l => (mpSV g x).bind fun y => (mpAll g l).map fun r => y :: r
def mpSB (g : Rn) (x : SB) : Option SB :=
  match x with
  | .cells ty cs => (mpL g cs).map fun r => .cells ty r
  | .lit ty n cs => (mpL g cs).map fun r => .lit ty n r
  | .ro ty cs => (mpL g cs).map fun r => .ro ty r
  | x => some x
/-- Names go over with what they stand for. -/
def Over (g : Rn) (ρ ρ' : Env) : Prop := ∀ k j v, g k = some j → ρ k = some v → ρ' j = some v
section
variable {g : Rn} {ρ ρ' : Env}
theorem mpCaps_ok (h : Over g ρ ρ') : ∀ {l r : List (Nat × Nat)} {vs : List Value}, mpCaps g l = some r → l.mapM (fun (p : Nat × Nat) => denPtr ρ p.1 p.2) = some vs → r.mapM (fun (p : Nat × Nat) => denPtr ρ' p.1 p.2) = some vs := by
  intro l
  induction l with
  | nil => intro r vs h1 h2; cases h1; exact h2
  | cons x l ih =>
    obtain ⟨k, f⟩ := x
    intro r vs h1 h2
    simp only [mpCaps, Option.bind_eq_some_iff, Option.map_eq_some_iff] at h1
    obtain ⟨j, hj, r', hr, rfl⟩ := h1
    rw [List.mapM_cons] at h2 ⊢
    cases hk : ρ k with
    | none => simp [denPtr, hk] at h2
    | some u =>
      have e1 : denPtr ρ' j f = denPtr ρ k f := by simp only [denPtr, hk, h k j u hj hk]
      simp only [e1]
      cases h3 : denPtr ρ k f with
      | none => simp [h3] at h2
      | some v =>
        cases h4 : l.mapM (fun (p : Nat × Nat) => denPtr ρ p.1 p.2) with
        | none => simp [h3, h4] at h2
        | some us =>
          rw [ih hr h4]
          simp [h3, h4] at h2
          simp [h2]
theorem mpSC_ok (h : Over g ρ ρ') {x y : SC} {v : Value} (hx : mpSC g x = some y) (hv : den ρ x = some v) : den ρ' y = some v := by
  have one : ∀ (k j : Nat) (F : Option Value → Option Value), F none = none → g k = some j → F (ρ k) = some v → F (ρ' j) = some v := by
    intro k j F h0 hj hf
    cases hk : ρ k with
    | none => rw [hk, h0] at hf; cases hf
    | some u => rw [h k j u hj hk, ← hk]; exact hf
  cases x with
  | ptr k f =>
    simp only [mpSC, Option.map_eq_some_iff] at hx
    obtain ⟨j, hj, rfl⟩ := hx
    exact one k j (fun q => (q.bind baseOf).map fun b => Value.pointer (some ⟨b, f, none⟩)) rfl hj hv
  | slc k =>
    simp only [mpSC, Option.map_eq_some_iff] at hx
    obtain ⟨j, hj, rfl⟩ := hx
    exact one k j id rfl hj hv
  | ept k i sz f =>
    simp only [mpSC, Option.map_eq_some_iff] at hx
    obtain ⟨j, hj, rfl⟩ := hx
    exact one k j (fun q => (q.bind elemBase).map fun (a : Addr) => Value.pointer (some ⟨a.block, a.off + (i * sz + f), none⟩)) rfl hj hv
  | mp k b =>
    simp only [mpSC, Option.map_eq_some_iff] at hx
    obtain ⟨j, hj, rfl⟩ := hx
    cases b with
    | false => exact hv
    | true => exact one k j (fun q => (q.bind baseOf).map fun b => Value.pointer (some ⟨b, 0, none⟩)) rfl hj hv
  | fn f l =>
    simp only [mpSC, Option.map_eq_some_iff] at hx
    obtain ⟨r, hr, rfl⟩ := hx
    simp only [den, Option.map_eq_some_iff] at hv ⊢
    obtain ⟨vs, h1, h2⟩ := hv
    exact ⟨vs, mpCaps_ok h hr h1, h2⟩
  | und => cases hx
  | _ => cases hx; exact hv
theorem mpL_ok (h : Over g ρ ρ') : ∀ {l r : List SC} {vs : List Value}, mpL g l = some r → denL ρ l = some vs → denL ρ' r = some vs := by
  intro l
  induction l with
  | nil => intro r vs h1 h2; cases h1; exact h2
  | cons x l ih =>
    intro r vs h1 h2
    simp only [mpL, Option.bind_eq_some_iff, Option.map_eq_some_iff] at h1
    obtain ⟨y, hy, r', hr, rfl⟩ := h1
    obtain ⟨v, us, e1, e2, rfl⟩ := denL_cons_some.1 h2
    exact denL_cons_some.2 ⟨v, us, mpSC_ok h hy e1, ih hr e2, rfl⟩
theorem mpT_ok (h : Over g ρ ρ') : ∀ {l r : List (Bool × List SC)} {vs : List Value}, mpT g l = some r → l.mapM (denC ρ) = some vs → r.mapM (denC ρ') = some vs := by
  intro l
  induction l with
  | nil => intro r vs h1 h2; cases h1; exact h2
  | cons x l ih =>
    obtain ⟨b, xl⟩ := x
    intro r vs h1 h2
    simp only [mpT, Option.bind_eq_some_iff, Option.map_eq_some_iff] at h1
    obtain ⟨y, hy, r', hr, rfl⟩ := h1
    rw [List.mapM_cons] at h2 ⊢
    cases hx : denC ρ (b, xl) with
    | none => simp [hx] at h2
    | some v =>
      cases h4 : l.mapM (denC ρ) with
      | none => simp [hx, h4] at h2
      | some us =>
        have e1 : denC ρ' (b, y) = some v := by
          cases b with
          | true =>
            simp only [denC, Option.map_eq_some_iff] at hx ⊢
            obtain ⟨ws, g1, g2⟩ := hx
            exact ⟨ws, mpL_ok h hy g1, g2⟩
          | false =>
            match xl with
            | [] => cases hx
            | _ :: _ :: _ => cases hx
            | [z] =>
              simp only [mpL, Option.bind_eq_some_iff, Option.map_eq_some_iff] at hy
              obtain ⟨z', hz, r2, hr2, rfl⟩ := hy
              cases hr2
              exact mpSC_ok h hz hx
        rw [ih hr h4, e1]
        simp [hx, h4] at h2
        simp [h2]
theorem mpSV_ok (h : Over g ρ ρ') {x y : SV} {v : Value} (hx : mpSV g x = some y) (hv : denV ρ x = some v) : denV ρ' y = some v := by
  cases x with
  | one x =>
    simp only [mpSV, Option.map_eq_some_iff] at hx
    obtain ⟨z, hz, rfl⟩ := hx
    exact mpSC_ok h hz hv
  | agg l =>
    simp only [mpSV, Option.map_eq_some_iff] at hx
    obtain ⟨z, hz, rfl⟩ := hx
    simp only [denV, Option.map_eq_some_iff] at hv ⊢
    obtain ⟨vs, h1, h2⟩ := hv
    exact ⟨vs, mpL_ok h hz h1, h2⟩
  | tup l =>
    simp only [mpSV, Option.map_eq_some_iff] at hx
    obtain ⟨z, hz, rfl⟩ := hx
    simp only [denV, Option.map_eq_some_iff] at hv ⊢
    obtain ⟨vs, h1, h2⟩ := hv
    exact ⟨vs, mpT_ok h hz h1, h2⟩
theorem mpAll_ok (h : Over g ρ ρ') : ∀ {l r : List SV} {vs : List Value}, mpAll g l = some r → All2 (fun u x => denV ρ x = some u) vs l → All2 (fun u x => denV ρ' x = some u) vs r := by
  intro l
  induction l with
  | nil => intro r vs h1 h2; cases h1; cases h2; exact .nil
  | cons x l ih =>
    intro r vs h1 h2
    simp only [mpAll, Option.bind_eq_some_iff, Option.map_eq_some_iff] at h1
    obtain ⟨y, hy, r', hr, rfl⟩ := h1
    cases h2 with
    | cons a b => exact .cons (mpSV_ok h hy a) (ih hr b)
theorem mpSB_mut {x y : SB} (h : mpSB g x = some y) : y.mut = x.mut ∧ ∀ v, foot v y = foot v x := by
  cases x <;> simp only [mpSB, Option.map_eq_some_iff, Option.some.injEq] at h
  case cells => obtain ⟨_, _, rfl⟩ := h; exact ⟨rfl, fun _ => rfl⟩
  case lit => obtain ⟨_, _, rfl⟩ := h; exact ⟨rfl, fun _ => rfl⟩
  case ro => obtain ⟨_, _, rfl⟩ := h; exact ⟨rfl, fun _ => rfl⟩
  all_goals (subst h; exact ⟨rfl, fun _ => rfl⟩)
/-- A block goes over, its names and its place too. -/
theorem mpSB_ok (h : Over g ρ ρ') {C C' : Ctx} {w : World} {v : Value} {x y : SB} (hx : mpSB g x = some y) (hb : SBok C ρ w v x) (ho : x.mut = true → ∀ i, foot v x = some i → C'.own i) (hs : ∀ i, foot v x = some i → C'.seen i) : SBok C' ρ' w v y := by
  cases x with
  | cells ty cs =>
    simp only [mpSB, Option.map_eq_some_iff] at hx
    obtain ⟨r, hr, rfl⟩ := hx
    obtain ⟨b, vs, h1, h2, h3, h4⟩ := hb
    exact ⟨b, vs, h1, mpL_ok h hr h2, h3, ho rfl b (blockOf_base h1)⟩
  | lit ty n cs =>
    simp only [mpSB, Option.map_eq_some_iff] at hx
    obtain ⟨r, hr, rfl⟩ := hx
    obtain ⟨b, vs, h1, h2, h3, h4⟩ := hb
    exact ⟨b, vs, h1, mpL_ok h hr h2, h3, ho rfl b (by subst h1; rfl)⟩
  | ro ty cs =>
    simp only [mpSB, Option.map_eq_some_iff] at hx
    obtain ⟨r, hr, rfl⟩ := hx
    obtain ⟨b, vs, h1, h2, h3, h4⟩ := hb
    exact ⟨b, vs, h1, mpL_ok h hr h2, h3, hs b (blockOf_base h1)⟩
  | row ty l =>
    cases hx
    exact ⟨hb.1, fun i hi => ho rfl i (own_blockOf hi)⟩
  | read l =>
    cases hx
    obtain ⟨A, c, h1, h2, h3, h4⟩ := hb
    refine ⟨A, c, h1, h2, h3, fun hn => ?_⟩
    obtain ⟨b, o, e1, e2, e3⟩ := h4 hn
    refine ⟨b, o, e1, e2, hs b ?_⟩
    simp only [foot]
    rw [if_neg (by omega), h1, e1]; rfl
  | iter s pos =>
    cases hx
    obtain ⟨b, h1, h2, h3⟩ := hb
    exact ⟨b, h1, h2, ho rfl b (by subst h1; rfl)⟩
end

/-! ### what a function does to what it is handed -/
/-- args and memory, the names being 0, 1, ..; what must hold; the result; what is there behind it: new names from 16 on. -/
structure ASpec where
  spec : List SV → List (Nat × Option SB) → Option (List Prop × SV × List (Nat × Option SB))
/-- What memory is. -/
structure MS (C : Ctx) (ρ : Env) (m : List (Nat × Option SB)) (w : World) : Prop where
  one : ∀ k v, ρ k = some v → v.oneCell' = true
  pin : ∀ k, k < 16 → ρ k = C.pin k
  mem : ∀ k b, look k m = some (some b) → ∃ v, ρ k = some v ∧ SBok C ρ w v b
  apart : ∀ k k' b b' v v', k ≠ k' → look k m = some (some b) → look k' m = some (some b') → b.mut = true → ρ k = some v → ρ k' = some v' → Apart (foot v b) (foot v' b')
structure Acts (P : Program) (Gl : List (Nat × (List Value → Prop))) (f : Nat) (s : ASpec) : Prop where
  body : ∃ fn c, P.funcs[f]? = some fn ∧ fn.body = some c ∧ (fn.name == "runtime.NumGoroutine") = false
  calls : ∀ args mem p r post, s.spec args mem = some (p, r, post) → All p → ∀ (C : Ctx) (ρ : Env) (w : World) (vs : List Value), C.P = P → C.w0 = w → Glob Gl w → (∀ q ∈ Gl, ¬ C.F q.1) → MS C ρ mem w → DomLt ρ 16 →
    All2 (fun u x => denV ρ x = some u) vs args →
    Calls P f vs.toArray w fun e w' => ∃ v ρ', e = .returned v ∧ Fr C.F w w' ∧ MS C ρ' post w' ∧ DomLt ρ' 32 ∧ denV ρ' r = some v

/-- Memory alone, as a state without slots. -/
def Ctx.bare (C : Ctx) : Ctx := ⟨C.P, C.w0, C.F, C.A, 0, C.pin⟩
theorem sat_of_ms {C : Ctx} {ρ : Env} {m : List (Nat × Option SB)} {w : World} (h : MS C ρ m w) (hw : C.w0 = w) (n : Nat) : Sat C.bare ρ ⟨[], m, n⟩ { tmps := #[], defers := [] } w where
  frame := by show Fr C.F C.w0 w; rw [hw]; exact Fr.refl _ _
  tsize := rfl
  defers := rfl
  one := h.one
  pin := h.pin
  slots := fun t x hx => by cases hx
  mem := fun k b hb => h.mem k b (Option.join_eq_some_iff.1 hb)
  apart := fun k k' b b' v v' hne h1 h2 => h.apart k k' b b' v v' hne (Option.join_eq_some_iff.1 h1) (Option.join_eq_some_iff.1 h2)
theorem ms_of_sat {C : Ctx} {ρ : Env} {S : AS} {a : Act} {w : World} (h : Sat C.bare ρ S a w) {m : List (Nat × Option SB)} (hm : ∀ k b, look k m = some (some b) → S.blk k = some b) : MS C ρ m w where
  one := h.one
  pin := h.pin
  mem := fun k b hb => h.mem k b (hm k b hb)
  apart := fun k k' b b' v v' hne h1 h2 => h.apart k k' b b' v v' hne (hm k b h1) (hm k' b' h2)

/-! ### the proof of one -/
def argSlots (t : Nat) : List SV → List (Nat × SV)
  | [] => []
  | x :: l => (t, x) :: argSlots (t + 1) l
/-- The names that were handed in and are told anew. -/
def pinSlots : List (Nat × Option SB) → List (Nat × SV)
  | [] => []
  | (k, _) :: l => bif Nat.blt k 16 then (k + 1, .one (.slc k)) :: pinSlots l else pinSlots l
def pinsIn (n : Nat) : List (Nat × Option SB) → Bool
  | [] => true
  | (k, _) :: l => (Nat.blt k n || Nat.ble 16 k) && pinsIn n l
/-- Behind the code: the result, the names that were handed in, the memory. -/
def actK (k : Kit) (rs : List ResultVar) (r : SV) (post : List (Nat × Option SB)) : Ex → AS → Prop :=
  retK k.tbl rs fun x S' => Ent ⟨(0, x) :: pinSlots post, S'.mem, S'.next⟩ ⟨(0, r) :: pinSlots post, post, 32⟩
def hasNames : Nat → Nat → List (Nat × Option SB) → Bool
  | 0, _, _ => true
  | n + 1, k, m => (match look k m with | some (some _) => true | _ => false) && hasNames n (k + 1) m
def notUnd : SV → Bool
  | .one .und => false
  | _ => true
def vcActs (k : Kit) (c : Code) (rs : List ResultVar) (A : Ann) (args : List SV) (mem : List (Nat × Option SB)) (r : SV) (post : List (Nat × Option SB)) : Prop :=
  bif Nat.ble args.length k.nt && Nat.ble mem.length 15 && hasNames mem.length 0 mem && notUnd r && pinsIn mem.length post then vc k c A ⟨argSlots 0 args, mem, 16⟩ (actK k rs r post) else False
theorem hasNames_get : ∀ {n k : Nat} {m : List (Nat × Option SB)}, hasNames n k m = true → ∀ j, k ≤ j → j < k + n → ∃ b, look j m = some (some b) := by
  intro n
  induction n with
  | zero => intro k m _ j h1 h2; omega
  | succ n ih =>
    intro k m h j h1 h2
    simp only [hasNames, Bool.and_eq_true] at h
    by_cases hj : j = k
    · subst hj
      have := h.1
      split at this
      · rename_i b hb; exact ⟨b, hb⟩
      · cases this
    · exact ih h.2 j (by omega) (by omega)
theorem argSlots_get : ∀ {args : List SV} {t j : Nat} {x : SV}, look j (argSlots t args) = some x → ∃ i, j = t + i ∧ args[i]? = some x := by
  intro args
  induction args with
  | nil => intro t j x h; cases h
  | cons y l ih =>
    intro t j x h
    simp only [argSlots, look_cons] at h
    split at h
    · cases h; exact ⟨0, by omega, rfl⟩
    · obtain ⟨i, h1, h2⟩ := ih h
      exact ⟨i + 1, by omega, by simpa using h2⟩
theorem pinSlots_get {n : Nat} : ∀ {l : List (Nat × Option SB)} {j : Nat} {x : SV}, pinsIn n l = true → look j (pinSlots l) = some x → ∃ i, i < n ∧ i < 16 ∧ j = i + 1 ∧ x = .one (.slc i) := by
  intro l
  induction l with
  | nil => intro j x _ h; cases h
  | cons y l ih =>
    obtain ⟨k, b⟩ := y
    intro j x hp h
    simp only [pinsIn, Bool.and_eq_true, Bool.or_eq_true] at hp
    unfold pinSlots at h
    cases hk : Nat.blt k 16 with
    | false => rw [hk, cond_false] at h; exact ih hp.2 h
    | true =>
      rw [hk, cond_true, look_cons] at h
      have hk' : k < 16 := Nat.le_of_ble_eq_true hk
      split at h
      · cases h
        refine ⟨k, ?_, hk', by omega, rfl⟩
        rcases hp.1 with h1 | h1
        · exact Nat.le_of_ble_eq_true h1
        · have := Nat.le_of_ble_eq_true h1; omega
      · exact ih hp.2 h
theorem all2_get {α β : Type} {R : α → β → Prop} : ∀ {l : List α} {m : List β}, All2 R l m → ∀ {i : Nat} {b : β}, m[i]? = some b → ∃ a, l[i]? = some a ∧ R a b := by
  intro l m h
  induction h with
  | nil => intro i b hb; simp at hb
  | cons h1 _ ih =>
    intro i b hb
    cases i with
    | zero => simp at hb; subst hb; exact ⟨_, rfl, h1⟩
    | succ i => simp at hb; obtain ⟨a, h2, h3⟩ := ih hb; exact ⟨a, by simpa using h2, h3⟩
theorem vx_acts {P : Program} {Gl : List (Nat × (List Value → Prop))} {f : Nat} {k : Kit} (fn : Func) (c : Code) (hf : P.funcs[f]? = some fn) (hb : fn.body = some c) (hn : (fn.name == "runtime.NumGoroutine") = false)
    (hm : P.follows .mixedOrders = true) (hT : tblOK P k.tbl) (hH : HookOK k.tbl (GC P Gl) k.hk) (hnt : fn.ntmps = k.nt) {s : ASpec} (A : List SV → List (Nat × Option SB) → Ann)
    (hv : ∀ args mem p r post, s.spec args mem = some (p, r, post) → All p → vcActs k c fn.results.toList (A args mem) args mem r post) : Acts P Gl f s := by
  refine ⟨⟨fn, c, hf, hb, hn⟩, fun args mem p r post hs hp C ρ w vs hP hw hg hgf hms hdom hargs => ?_⟩
  have h := hv args mem p r post hs hp
  unfold vcActs at h
  cases hc : Nat.ble args.length k.nt && Nat.ble mem.length 15 && hasNames mem.length 0 mem && notUnd r && pinsIn mem.length post with
  | false => rw [hc] at h; exact h.elim
  | true =>
    rw [hc, cond_true] at h
    simp only [Bool.and_eq_true] at hc
    have c1 := Nat.le_of_ble_eq_true hc.1.1.1.1
    have c2 := Nat.le_of_ble_eq_true hc.1.1.1.2
    have c3 := hc.1.1.2
    have c4 : r ≠ .one .und := by rintro rfl; cases hc.1.2
    have c5 := hc.2
    let C1 : Ctx := ⟨C.P, C.w0, C.F, C.A, k.nt, C.pin⟩
    have hal := all2_length hargs
    have hsat : St C1 ρ ⟨argSlots 0 args, mem, 16⟩ { tmps := vs.toArray ++ Array.replicate (fn.ntmps - vs.toArray.size) undef, defers := [] } w := by
      refine ⟨⟨by rw [← hw]; exact Fr.refl _ _, ?_, rfl, hms.one, hms.pin, ?_, ?_, ?_⟩, hdom, Nat.le_refl _⟩
      · simp [C1]; omega
      · intro t x hx _
        obtain ⟨i, e1, e2⟩ := argSlots_get hx
        obtain ⟨v, e3, e4⟩ := all2_get hargs e2
        refine ⟨v, e4, ?_⟩
        have hi := (List.getElem?_eq_some_iff.1 e3).1
        rw [e1, Nat.zero_add, Array.getElem?_append_left (by simpa using hi)]
        simpa using e3
      · intro j b hj
        exact hms.mem j b (by unfold AS.blk at hj; exact Option.join_eq_some_iff.1 hj)
      · intro j j' b b' v v' hne h1 h2
        exact hms.apart j j' b b' v v' hne (Option.join_eq_some_iff.1 h1) (Option.join_eq_some_iff.1 h2)
    have hG : GC P Gl C1 := ⟨hP, by show Glob Gl C.w0; rw [hw]; exact hg, hgf⟩
    have := vc_calls (C := C1) (by show C.P.follows _ = true; rw [hP]; exact hm) (by show tblOK C.P _; rw [hP]; exact hT) hH hG rfl (args := vs.toArray) (by show C.P.funcs[f]? = _; rw [hP]; exact hf) hb (A args mem) hsat h
    rw [show C1.P = P from hP] at this
    refine this.mono ?_
    rintro e w' ⟨ρ', S', a', x, v, rfl, h1, h2, h3⟩
    -- the names that were handed in are there
    have hpins : ∀ j, j < mem.length → ∃ u, ρ' j = some u := by
      intro j hj
      obtain ⟨b, hb⟩ := hasNames_get c3 j (Nat.zero_le _) (by omega)
      obtain ⟨u, e1, _⟩ := hms.mem j b hb
      refine ⟨u, ?_⟩
      rw [h1.sat.pin j (by omega)]
      show C.pin j = _
      rw [← hms.pin j (by omega)]; exact e1
    let C2 : Ctx := ⟨C.P, C.w0, C.F, C.A, mem.length + 1, C.pin⟩
    let tm : List Value := v :: (List.range mem.length).map fun j => (ρ' j).getD undef
    have hsat2 : Sat C2 ρ' ⟨(0, x) :: pinSlots post, S'.mem, S'.next⟩ { tmps := tm.toArray, defers := [] } w' := by
      refine ⟨h1.sat.frame, ?_, rfl, h1.sat.one, h1.sat.pin, ?_, h1.sat.mem, h1.sat.apart⟩
      · simp [tm, C2]
      · intro t y hy _
        unfold AS.slot at hy
        rw [look_cons] at hy
        split at hy
        · subst_vars
          cases hy
          exact ⟨v, h2, by simp [tm]⟩
        · obtain ⟨i, i1, i2, rfl, rfl⟩ := pinSlots_get c5 hy
          obtain ⟨u, hu⟩ := hpins i i1
          refine ⟨u, hu, ?_⟩
          simp only [tm, List.getElem?_toArray, List.getElem?_cons_succ, List.getElem?_map]
          rw [List.getElem?_range (by omega)]
          simp [hu]
    obtain ⟨ρ2, g1, g2⟩ := Ent_sound hsat2 h3 (by show 16 ≤ 32; omega)
    obtain ⟨v2, q1, q2⟩ := g1.slots 0 r (by unfold AS.slot; rw [look_cons, if_pos rfl]) c4
    have q2 : v2 = v := by
      simp [tm] at q2
      exact q2.symm
    subst q2
    refine ⟨v2, ρ2, rfl, ?_, ⟨g1.one, g1.pin, ?_, ?_⟩, g2, q1⟩
    · have := h1.sat.frame
      rw [show C1.w0 = w from hw] at this
      exact this
    · intro j b hj
      exact g1.mem j b (by unfold AS.blk; rw [hj]; rfl)
    · intro j j' b b' u u' hne e1 e2
      exact g1.apart j j' b b' u u' hne (by unfold AS.blk; rw [e1]; rfl) (by unfold AS.blk; rw [e2]; rfl)

/-! ### the use of some -/
def firstIdx (k : Nat) : List Nat → Nat → Option Nat
  | [], _ => none
  | j :: l, i => bif Nat.beq j k then some i else firstIdx k l (i + 1)
def addN (σ : List Nat) : List Nat → List Nat
  | [] => σ
  | k :: l => addN (bif elemN k σ then σ else σ ++ [k]) l
def closeN (m : Mem) : Nat → Nat → List Nat → List Nat
  | 0, _, σ => σ
  | n + 1, i, σ =>
    match σ[i]? with
    | none => σ
    | some k => closeN m n (i + 1) (addN σ (match m k with | some b => namesSB b | none => []))
def nodupN : List Nat → Bool
  | [] => true
  | k :: l => !elemN k l && nodupN l
def canonMem (g : Rn) (m : Mem) : Nat → List Nat → Option (List (Nat × Option SB))
  | _, [] => some []
  | i, k :: l => (m k).bind fun b => (mpSB g b).bind fun b' => (canonMem g m (i + 1) l).map fun r => (i, some b') :: r
def bkN (σ : List Nat) (fr j : Nat) : Option Nat := bif Nat.blt j 16 then σ[j]? else bif Nat.blt j 32 then some (fr + (j - 16)) else none
def postMem (g : Rn) : List (Nat × Option SB) → Option (List (Nat × Option SB))
  | [] => some []
  | (j, some b) :: l => (g j).bind fun k => (mpSB g b).bind fun b' => (postMem g l).map fun r => (k, some b') :: r
  | (_, none) :: _ => none
def hasKey {α : Type} (i : Nat) : List (Nat × α) → Bool
  | [] => false
  | (j, _) :: l => Nat.beq j i || hasKey i l
def mutOf : Option SB → Bool
  | some b => b.mut
  | none => true
def killsOf (m : Mem) (post : List (Nat × Option SB)) : Nat → List Nat → List (Nat × Option SB)
  | _, [] => []
  | i, k :: l => bif hasKey i post || !mutOf (m k) then killsOf m post (i + 1) l else (k, none) :: killsOf m post (i + 1) l
def actOn (s : ASpec) (fr : Nat) (m : Mem) (xs : List SV) : Option Out :=
  let σ := closeN m 16 0 (addN [] (namesA xs))
  bif Nat.ble σ.length 15 && nodupN σ then
    (mpAll (fun k => firstIdx k σ 0) xs).bind fun axs => (canonMem (fun k => firstIdx k σ 0) m 0 σ).bind fun am =>
      (s.spec axs am).bind fun q => (mpSV (bkN σ fr) q.2.1).bind fun r => (postMem (bkN σ fr) q.2.2).map fun pm => (q.1, ⟨r, pm ++ killsOf m q.2.2 0 σ⟩)
  else none
def actHook (cs : List (Nat × ASpec)) : Hook := fun fr o ev m =>
  match o.op with
  | .call ⟨.value x, args, _⟩ => (calleeOf ev x).bind fun c => (look c.1 cs).bind fun s => (evAll ev args.toList).bind fun xs => actOn s fr m (xs ++ c.2)
  | _ => none
theorem firstIdx_get {k : Nat} : ∀ {l : List Nat} {n i : Nat}, firstIdx k l n = some i → ∃ j, i = n + j ∧ l[j]? = some k := by
  intro l
  induction l with
  | nil => intro n i h; cases h
  | cons x l ih =>
    intro n i h
    unfold firstIdx at h
    cases hb : Nat.beq x k with
    | true => rw [hb, cond_true] at h; cases h; exact ⟨0, rfl, by rw [Nat.eq_of_beq_eq_true hb]; rfl⟩
    | false =>
      rw [hb, cond_false] at h
      obtain ⟨j, h1, h2⟩ := ih h
      exact ⟨j + 1, by omega, by simpa using h2⟩
theorem nodupN_inj : ∀ {l : List Nat}, nodupN l = true → ∀ {i j k : Nat}, l[i]? = some k → l[j]? = some k → i = j := by
  intro l
  induction l with
  | nil => intro _ i j k h; simp at h
  | cons x l ih =>
    intro h i j k hi hj
    simp only [nodupN, Bool.and_eq_true, Bool.not_eq_true'] at h
    have hx : x ∉ l := fun hm => by rw [elemN_mem.2 hm] at h; cases h.1
    cases i with
    | zero =>
      cases j with
      | zero => rfl
      | succ j =>
        simp at hi hj
        subst hi
        exact absurd (List.mem_of_getElem? hj) hx
    | succ i =>
      cases j with
      | zero =>
        simp at hi hj
        subst hj
        exact absurd (List.mem_of_getElem? hi) hx
      | succ j =>
        simp at hi hj
        rw [ih h.2 hi hj]
theorem canonMem_get {g : Rn} {m : Mem} : ∀ {l : List Nat} {n : Nat} {am : List (Nat × Option SB)}, canonMem g m n l = some am →
    (∀ i b, look i am = some (some b) → ∃ j k b0, i = n + j ∧ l[j]? = some k ∧ m k = some b0 ∧ mpSB g b0 = some b) ∧ ∀ k ∈ l, ∃ b, m k = some b := by
  intro l
  induction l with
  | nil => intro n am h; cases h; exact ⟨fun i b hb => (by cases hb), fun k hk => (by cases hk)⟩
  | cons x l ih =>
    intro n am h
    simp only [canonMem, Option.bind_eq_some_iff, Option.map_eq_some_iff] at h
    obtain ⟨b, h1, b', h2, r, h3, rfl⟩ := h
    obtain ⟨g1, g2⟩ := ih h3
    refine ⟨fun i c hc => ?_, fun k hk => ?_⟩
    · rw [look_cons] at hc
      split at hc
      · subst_vars; cases hc; exact ⟨0, x, b, rfl, rfl, h1, h2⟩
      · obtain ⟨j, k, b0, e1, e2, e3, e4⟩ := g1 i c hc
        exact ⟨j + 1, k, b0, by omega, by simpa using e2, e3, e4⟩
    · rcases List.mem_cons.1 hk with rfl | hk
      · exact ⟨b, h1⟩
      · exact g2 k hk
theorem postMem_get {g : Rn} (hg : ∀ j j' k, g j = some k → g j' = some k → j = j') : ∀ {l pm : List (Nat × Option SB)}, postMem g l = some pm →
    (∀ k b, look k pm = some (some b) → ∃ j b0, g j = some k ∧ look j l = some (some b0) ∧ mpSB g b0 = some b) ∧ (∀ k, look k pm ≠ some none) ∧ ∀ i k, hasKey i l = true → g i = some k → look k pm ≠ none := by
  intro l
  induction l with
  | nil => intro pm h; cases h; exact ⟨fun k b hb => (by cases hb), fun k hk => (by cases hk), fun i k hk => (by cases hk)⟩
  | cons x l ih =>
    obtain ⟨j, b⟩ := x
    intro pm h
    cases b with
    | none => cases h
    | some b =>
      simp only [postMem, Option.bind_eq_some_iff, Option.map_eq_some_iff] at h
      obtain ⟨k0, h1, b', h2, r, h3, rfl⟩ := h
      obtain ⟨g1, g2, g3⟩ := ih h3
      refine ⟨fun k c hc => ?_, fun k hk => ?_, fun i k hi hk => ?_⟩
      · rw [look_cons] at hc
        split at hc
        · subst_vars; cases hc; exact ⟨j, b, h1, by rw [look_cons, if_pos rfl], h2⟩
        · rename_i hne
          obtain ⟨j', b0, e1, e2, e3⟩ := g1 k c hc
          refine ⟨j', b0, e1, ?_, e3⟩
          rw [look_cons, if_neg]
          · exact e2
          · rintro rfl
            rw [h1] at e1; cases e1
            exact hne rfl
      · rw [look_cons] at hk
        split at hk
        · cases hk
        · exact g2 k hk
      · rw [look_cons]
        split
        · simp
        · rename_i hne
          refine g3 i k ?_ hk
          simp only [hasKey, Bool.or_eq_true] at hi
          rcases hi with hi | hi
          · have := Nat.eq_of_beq_eq_true hi
            subst this
            rw [h1] at hk; cases hk
            exact absurd rfl hne
          · exact hi
theorem killsOf_get {m : Mem} {post : List (Nat × Option SB)} : ∀ {l : List Nat} {n : Nat}, (∀ k b, look k (killsOf m post n l) ≠ some (some b)) ∧ ∀ j k, l[j]? = some k → hasKey (n + j) post = false → mutOf (m k) = true → look k (killsOf m post n l) ≠ none := by
  intro l
  induction l with
  | nil => intro n; exact ⟨fun k b h => (by cases h), fun j k h => (by simp at h)⟩
  | cons x l ih =>
    intro n
    obtain ⟨g1, g2⟩ := ih (n := n + 1)
    unfold killsOf
    cases hb : hasKey n post || !mutOf (m x) with
    | true =>
      rw [cond_true]
      refine ⟨g1, fun j k hj hk hm => ?_⟩
      cases j with
      | zero =>
        simp at hj
        subst hj
        rw [Nat.add_zero] at hk
        rw [hk, hm] at hb; cases hb
      | succ j => exact g2 j k (by simpa using hj) (by rw [← hk]; congr 1; omega) hm
    | false =>
      rw [cond_false]
      refine ⟨fun k b h => ?_, fun j k hj hk hm => ?_⟩
      · rw [look_cons] at h
        split at h
        · cases h
        · exact g1 k b h
      · rw [look_cons]
        split
        · simp
        · rename_i hne
          cases j with
          | zero => simp at hj; exact absurd hj hne
          | succ j => exact g2 j k (by simpa using hj) (by rw [← hk]; congr 1; omega) hm
section
variable {C : Ctx} {tbl : Tbl} {ρ : Env} {S : AS} {a : Act} {w : World} {fr : Nat} {o : Oper} {ev : Evl} {m : Mem}
theorem act_does (H : Here C tbl ρ S a w fr o ev m) {P : Program} {Gl : List (Nat × (List Value → Prop))} (hG : GC P Gl C) {f : Nat} {s : ASpec} (hA : Acts P Gl f s) {x : Operand} {args : Array Operand} {ts : Array TypeId} (ho : o.op = .call ⟨.value x, args, ts⟩) {caps : List SV} (hc : calleeOf ev x = some (f, caps))
    {xs0 : List SV} (hx : evAll ev args.toList = some xs0) {ps : List Prop} {e : Eff} (hact : actOn s fr m (xs0 ++ caps) = some (ps, e)) (hp : All ps) : Does C ρ S a w fr o e := by
  unfold actOn at hact
  simp only at hact
  generalize hσ : closeN m 16 0 (addN [] (namesA (xs0 ++ caps))) = σ at hact
  cases hck : Nat.ble σ.length 15 && nodupN σ with
  | false => rw [hck] at hact; cases hact
  | true =>
  rw [hck, cond_true] at hact
  simp only [Option.bind_eq_some_iff, Option.map_eq_some_iff, Prod.mk.injEq] at hact
  obtain ⟨axs, h1, am, h2, ⟨q1, r0, post⟩, h3, r, h4, pm, h5, rfl, rfl⟩ := hact
  simp only [Bool.and_eq_true] at hck
  have hlen := Nat.le_of_ble_eq_true hck.1
  have hnd := hck.2
  obtain ⟨cvs, hcv, hrun0⟩ := callee_run H ho hc
  have hargs : All2 (fun u x => denV ρ x = some u) (args.toList.map a.eval ++ cvs) (xs0 ++ caps) := all2_append (evAll_ok H hx) hcv
  obtain ⟨⟨fn, c, hf, hb, hn⟩, hcalls⟩ := hA
  have hrun : (execOp a.eval o).run C.P w = .ok (.enter f (args.toList.map a.eval ++ cvs).toArray) w := by
    rw [hrun0, hG.prog]
    exact run_enter hf hb hn _ w
  obtain ⟨hcm1, hcm2⟩ := canonMem_get h2
  have hsz0 : C.w0.heap.size ≤ w.heap.size := H.sat.frame.size
  -- the callee's names
  let ρc : Env := fun i => if i < 16 then (σ[i]?).bind ρ else none
  let F : Nat → Prop := fun q => ∃ k b u, k ∈ σ ∧ S.blk k = some b ∧ b.mut = true ∧ ρ k = some u ∧ foot u b = some q
  let A : Nat → Prop := fun q => ∃ k b u, k ∈ σ ∧ S.blk k = some b ∧ ρ k = some u ∧ foot u b = some q
  let C' : Ctx := ⟨P, w, F, A, 0, ρc⟩
  have hover : Over (fun k => firstIdx k σ 0) ρ ρc := by
    intro k i v hk hv
    obtain ⟨j, e1, e2⟩ := firstIdx_get hk
    have hj := (List.getElem?_eq_some_iff.1 e2).1
    rw [Nat.zero_add] at e1
    subst e1
    show (if i < 16 then (σ[i]?).bind ρ else none) = some v
    rw [if_pos (by omega), e2]
    exact hv
  have hFown : ∀ q, F q → C.own q := by
    rintro q ⟨k, b, u, _, g2, g3, g4, g5⟩
    obtain ⟨u', e1, e2⟩ := H.sat.mem k b g2
    rw [g4] at e1; cases e1
    exact e2.own g3 q g5
  have hAseen : ∀ q, A q → C.seen q := by
    rintro q ⟨k, b, u, _, g2, g4, g5⟩
    obtain ⟨u', e1, e2⟩ := H.sat.mem k b g2
    rw [g4] at e1; cases e1
    exact foot_seen e2 q g5
  have hown' : ∀ q, C'.own q → C.own q := fun q hq => hq.elim (fun h => .inl (Nat.le_trans hsz0 h)) (hFown q)
  have hseen' : ∀ q, C'.seen q → C.seen q := fun q hq => hq.elim (fun h => .inl (hown' q h)) (hAseen q)
  have hρc : ∀ i v, ρc i = some v → ∃ k, σ[i]? = some k ∧ ρ k = some v := by
    intro i v hi
    have hi : (if i < 16 then (σ[i]?).bind ρ else none) = some v := hi
    split at hi
    · rw [Option.bind_eq_some_iff] at hi; exact hi
    · cases hi
  have hms : MS C' ρc am w := by
    refine ⟨fun i v hi => ?_, fun _ _ => rfl, fun i b hi => ?_, fun i i' b b' v v' hne hi hi' hm hv hv' => ?_⟩
    · obtain ⟨k, _, e2⟩ := hρc i v hi
      exact H.sat.one k v e2
    · obtain ⟨j, k, b0, e1, e2, e3, e4⟩ := hcm1 i b hi
      rw [Nat.zero_add] at e1; subst e1
      have hbk := H.mem k b0 e3
      obtain ⟨u, f1, f2⟩ := H.sat.mem k b0 hbk
      have hj := (List.getElem?_eq_some_iff.1 e2).1
      refine ⟨u, ?_, mpSB_ok hover e4 f2 (fun hm q hq => .inr ⟨k, b0, u, List.mem_of_getElem? e2, hbk, hm, f1, hq⟩) (fun q hq => .inr ⟨k, b0, u, List.mem_of_getElem? e2, hbk, f1, hq⟩)⟩
      show (if i < 16 then (σ[i]?).bind ρ else none) = some u
      rw [if_pos (by omega), e2]; exact f1
    · obtain ⟨j, k, b0, e1, e2, e3, e4⟩ := hcm1 i b hi
      obtain ⟨j', k', b0', e1', e2', e3', e4'⟩ := hcm1 i' b' hi'
      rw [Nat.zero_add] at e1 e1'; subst e1; subst e1'
      obtain ⟨m1, m2⟩ := mpSB_mut e4
      obtain ⟨m1', m2'⟩ := mpSB_mut e4'
      obtain ⟨k1, x1, x2⟩ := hρc i v hv
      obtain ⟨k1', x1', x2'⟩ := hρc i' v' hv'
      rw [e2] at x1; cases x1
      rw [e2'] at x1'; cases x1'
      rw [m2, m2']
      refine H.sat.apart k k' b0 b0' v v' ?_ (H.mem k _ e3) (H.mem k' _ e3') (by rw [← m1]; exact hm) x2 x2'
      rintro rfl
      exact hne (nodupN_inj hnd e2 e2')
  have hdomc : DomLt ρc 16 := by
    intro i v hi
    have hi : (if i < 16 then (σ[i]?).bind ρ else none) = some v := hi
    split at hi
    · assumption
    · cases hi
  have hgl : ∀ q ∈ Gl, ¬ F q.1 := by
    intro q hq hF
    rcases hFown _ hF with h | h
    · obtain ⟨_, _, _, this, _⟩ := hG.glob q hq
      have := (Array.getElem?_eq_some_iff.1 this).1
      omega
    · exact hG.far q hq h
  intro K Q hK
  unfold Oper.wp
  rw [hrun, Oper.upon_enter, hG.prog]
  refine (hcalls axs am q1 r0 post h3 hp C' ρc w _ rfl rfl (hG.now H.sat) hgl hms hdomc (mpAll_ok hover h1 hargs)).mono ?_
  rintro en w' ⟨v, ρ1, rfl, hfr, hms', hdom', hden⟩
  let ρn : Env := fun k => if fr ≤ k ∧ k < fr + 16 then ρ1 (k - fr + 16) else ρ k
  have hin : ∀ k u, ρ k = some u → ¬ (fr ≤ k ∧ k < fr + 16) := fun k u hk hr => by
    rw [H.fresh k hr.1 hr.2] at hk; cases hk
  have hle : ρ.le ρn := by
    intro k u hk
    show (if fr ≤ k ∧ k < fr + 16 then ρ1 (k - fr + 16) else ρ k) = some u
    rw [if_neg (hin k u hk)]; exact hk
  have hbk : ∀ j k, bkN σ fr j = some k → (j < 16 ∧ σ[j]? = some k) ∨ (16 ≤ j ∧ j < 32 ∧ k = fr + (j - 16)) := by
    intro j k h
    unfold bkN at h
    cases hb : Nat.blt j 16 with
    | true => rw [hb, cond_true] at h; exact .inl ⟨Nat.le_of_ble_eq_true hb, h⟩
    | false =>
      rw [hb, cond_false] at h
      have hj : ¬ j < 16 := fun hlt => by
        have h6 : Nat.blt j 16 = true := Nat.ble_eq_true_of_le hlt
        rw [h6] at hb; cases hb
      cases hb2 : Nat.blt j 32 with
      | true => rw [hb2, cond_true] at h; cases h; exact .inr ⟨by omega, Nat.le_of_ble_eq_true hb2, rfl⟩
      | false => rw [hb2] at h; cases h
  have hover' : Over (bkN σ fr) ρ1 ρn := by
    intro j k u hj hu
    rcases hbk j k hj with ⟨g1, g2⟩ | ⟨g1, g2, rfl⟩
    · have := hms'.pin j g1
      rw [hu] at this
      have h7 : ρc j = some u := this.symm
      obtain ⟨k', e1, e2⟩ := hρc j u h7
      rw [g2] at e1; cases e1
      exact hle k u e2
    · show (if fr ≤ fr + (j - 16) ∧ fr + (j - 16) < fr + 16 then ρ1 (fr + (j - 16) - fr + 16) else ρ (fr + (j - 16))) = some u
      rw [if_pos ⟨by omega, by omega⟩, show fr + (j - 16) - fr + 16 = j by omega]; exact hu
  have hσρ : ∀ k ∈ σ, ∃ u, ρ k = some u := by
    intro k hk
    obtain ⟨b, hb⟩ := hcm2 k hk
    obtain ⟨u, e1, _⟩ := H.sat.mem k b (H.mem k b hb)
    exact ⟨u, e1⟩
  have hinj : ∀ j j' k, bkN σ fr j = some k → bkN σ fr j' = some k → j = j' := by
    intro j j' k hj hj'
    rcases hbk j k hj with ⟨g1, g2⟩ | ⟨g1, g2, g3⟩
    · rcases hbk j' k hj' with ⟨g1', g2'⟩ | ⟨g1', g2', g3'⟩
      · exact nodupN_inj hnd g2 g2'
      · obtain ⟨u, hu⟩ := hσρ k (List.mem_of_getElem? g2)
        exact absurd ⟨by omega, by omega⟩ (hin k u hu)
    · rcases hbk j' k hj' with ⟨g1', g2'⟩ | ⟨g1', g2', g3'⟩
      · obtain ⟨u, hu⟩ := hσρ k (List.mem_of_getElem? g2')
        exact absurd ⟨by omega, by omega⟩ (hin k u hu)
      · omega
  obtain ⟨hpm1, hpm2, hpm3⟩ := postMem_get hinj h5
  obtain ⟨hk1, hk2⟩ := killsOf_get (m := m) (post := post) (l := σ) (n := 0)
  have hlook : ∀ k b, look k (pm ++ killsOf m post 0 σ) = some (some b) → ∃ j b0, bkN σ fr j = some k ∧ look j post = some (some b0) ∧ mpSB (bkN σ fr) b0 = some b := by
    intro k b hk
    rw [look_append] at hk
    cases hpk : look k pm with
    | none => rw [hpk, Option.none_or] at hk; exact absurd hk (hk1 k b)
    | some y => rw [hpk, Option.some_or] at hk; cases hk; exact hpm1 k b hpk
  -- what was handed in, and can be turned, is told anew or gone
  have hgone : ∀ k b, k ∈ σ → S.blk k = some b → b.mut = true → look k (pm ++ killsOf m post 0 σ) ≠ none := by
    intro k b hk hb hm hl
    rw [look_append] at hl
    cases hpk : look k pm with
    | some y => rw [hpk] at hl; cases hl
    | none =>
      rw [hpk, Option.none_or] at hl
      obtain ⟨j, hj⟩ := List.getElem?_of_mem hk
      obtain ⟨b0, hb0⟩ := hcm2 k hk
      have := H.mem k b0 hb0
      rw [hb] at this; cases this
      cases hkey : hasKey j post with
      | true =>
        refine hpm3 j k hkey ?_ hpk
        have hjl := (List.getElem?_eq_some_iff.1 hj).1
        unfold bkN
        have h6 : Nat.blt j 16 = true := Nat.ble_eq_true_of_le (by omega)
        rw [h6, cond_true]; exact hj
      | false => exact hk2 j k hj (by rw [Nat.zero_add]; exact hkey) (by rw [hb0]; exact hm) hl
  refine hK ρn _ w' hle ?_ ?_
  · intro k u hk
    have hk : (if fr ≤ k ∧ k < fr + 16 then ρ1 (k - fr + 16) else ρ k) = some u := hk
    split at hk
    · rename_i hr; exact .inr hr
    · exact .inl ⟨u, hk⟩
  refine H.sat.step (G := F) o.dst _ v hle ?_ ?_ hfr (fun i hi => hFown i hi) (fun _ _ => mpSV_ok hover' h4 hden) H.dst ?_ ?_ ?_
  · intro k u hk
    have hk : (if fr ≤ k ∧ k < fr + 16 then ρ1 (k - fr + 16) else ρ k) = some u := hk
    split at hk
    · exact hms'.one _ u hk
    · exact H.sat.one k u hk
  · intro k hk
    show (if fr ≤ k ∧ k < fr + 16 then ρ1 (k - fr + 16) else ρ k) = ρ k
    rw [if_neg (by have := H.fr16; omega)]
  · rintro k b u hl hkb hu q hq ⟨k2, b2, u2, g1, g2, g3, g4, g5⟩
    by_cases hk : k2 = k
    · subst hk
      exact hgone k2 b2 g1 g2 g3 hl
    · exact H.sat.apart k2 k b2 b u2 u hk g2 hkb g3 g4 hu q g5 hq
  · intro k b hl
    obtain ⟨j, b0, e1, e2, e3⟩ := hlook k b hl
    obtain ⟨u, f1, f2⟩ := hms'.mem j b0 e2
    exact ⟨u, hover' j k u e1 f1, mpSB_ok hover' e3 f2 (fun hm q hq => hown' q (f2.own hm q hq)) (fun q hq => hseen' q (foot_seen f2 q hq))⟩
  · intro k b u k' b' u' hl hu hne hk' hu' hmut
    obtain ⟨j, b0, e1, e2, e3⟩ := hlook k b hl
    obtain ⟨y, f1, f2⟩ := hms'.mem j b0 e2
    have : y = u := by have := hover' j k y e1 f1; rw [hu] at this; exact (Option.some.inj this).symm
    subst this
    obtain ⟨m1, m2⟩ := mpSB_mut e3
    rcases hk' with hk' | ⟨hl', hkb'⟩
    · obtain ⟨j', b0', e1', e2', e3'⟩ := hlook k' b' hk'
      obtain ⟨y', f1', f2'⟩ := hms'.mem j' b0' e2'
      have : y' = u' := by have := hover' j' k' y' e1' f1'; rw [hu'] at this; exact (Option.some.inj this).symm
      subst this
      obtain ⟨m1', m2'⟩ := mpSB_mut e3'
      rw [m2, m2']
      have hjj : j ≠ j' := by
        rintro rfl
        rw [e1] at e1'; cases e1'
        exact hne rfl
      rcases hmut with hmut | hmut
      · exact hms'.apart j j' b0 b0' y y' hjj e2 e2' (by rw [← m1]; exact hmut) f1 f1'
      · exact (hms'.apart j' j b0' b0 y' y (Ne.symm hjj) e2' e2 (by rw [← m1']; exact hmut) f1' f1).symm
    · obtain ⟨y', f1', f2'⟩ := H.sat.mem k' b' hkb'
      have : y' = u' := by have := hle k' y' f1'; rw [hu'] at this; exact (Option.some.inj this).symm
      subst this
      rw [m2]
      intro q hq hq'
      have hlt := f2'.lt q hq'
      have fromF : ¬ F q := by
        rintro ⟨k2, b2, u2, g1, g2, g3, g4, g5⟩
        by_cases hk : k2 = k'
        · subst hk; exact hgone k2 b2 g1 g2 g3 hl'
        · exact H.sat.apart k2 k' b2 b' u2 y' hk g2 hkb' g3 g4 f1' q g5 hq'
      rcases hmut with hmut | hmut
      · rcases f2.own (by rw [← m1]; exact hmut) q hq with h | h
        · have h : w.heap.size ≤ q := h
          omega
        · exact fromF h
      · rcases foot_seen f2 q hq with (h | h) | h
        · have h : w.heap.size ≤ q := h
          omega
        · exact fromF h
        · obtain ⟨k2, b2, u2, g1, g2, g4, g5⟩ := h
          by_cases hk : k2 = k'
          · subst hk
            rw [hkb'] at g2; cases g2
            exact hgone k2 b' g1 hkb' hmut hl'
          · exact H.sat.apart k' k2 b' b2 y' u2 (Ne.symm hk) hkb' g2 hmut f1' g4 q hq' g5
theorem actHook_ok {P : Program} {Gl : List (Nat × (List Value → Prop))} {cs : List (Nat × ASpec)} (h : ∀ f s, look f cs = some s → Acts P Gl f s) : HookOK tbl (GC P Gl) (actHook cs) := by
  intro C ρ S a w fr o ev m H hG ps e hk hp
  unfold actHook at hk
  split at hk
  · rename_i x args ts ho
    simp only [Option.bind_eq_some_iff] at hk
    obtain ⟨c, h0, s, h1, xs, h2, h3⟩ := hk
    exact act_does H hG (h c.1 s h1) ho h0 h2 h3 hp
  · cases hk
end
end Go.Proofs.YtglfkihckkjniaaGreatDoor.Vx
