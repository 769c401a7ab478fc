/-
VX, part O: what functions do to plain values. No statement of the seat is proved here.
-/
import Derived.Test.YtglfkihckkjniaaGreatDoorVxL
set_option linter.unusedVariables false
set_option linter.unusedSimpArgs false
namespace Go.Proofs.YtglfkihckkjniaaGreatDoor.Vx
open Go Go.RowKit

inductive Pb where
  | int (k : IntKind) (n : Int)
  | str (s : List UInt8)
/-- Plain cells: lists where slices stand. -/
inductive Pc where
  | int (k : IntKind) (n : Int)
  | bool (b : Bool)
  | str (s : List UInt8)
  | rd (l : Ls)
  | nil
  | iv (x : Iv)
  | fnv (f : Nat) (caps : List (TypeId × Pb))
  | ref (ty : TypeId) (x : Pb)
inductive PV where
  | one (x : Pc)
  | agg (l : List Pc)
  | tup (l : List (Bool × List Pc))

def Pb.sc : Pb → SC
  | .int k n => .int k n
  | .str s => .str s
def Pb.val : Pb → Value
  | .int k n => .int k n
  | .str s => .string ⟨s.toArray⟩
theorem Pb.den (x : Pb) (ρ : Env) : Vx.den ρ x.sc = some x.val := by cases x <;> rfl

inductive All2 {α β : Type} (R : α → β → Prop) : List α → List β → Prop where
  | nil : All2 R [] []
  | cons {a : α} {b : β} {l : List α} {m : List β} (h : R a b) (t : All2 R l m) : All2 R (a :: l) (b :: m)
theorem env_set_ne {ρ : Env} {k j : Nat} {v : Value} (h : j ≠ k) : ρ.set k v j = ρ j := by simp [Env.set, h]
/-! ### what a value reads as -/
def Reading (w : World) (B : Nat → Prop) (v : Value) (l : Ls) : Prop := ∃ A c, v = .slice A l.len c ∧ l.len ≤ c ∧ l.len ≤ maxLen ∧
      (0 < l.len → ∃ b o, A = some ⟨b, o, none⟩ ∧ (∀ j, j < l.len * l.sz → w.cell? ⟨b, o + j, none⟩ = l.flat[j]?) ∧ B b)
def Cell1 (w : World) (B : Nat → Prop) (b : Nat) (c : TypeId × Pb) : Prop := w.heap[b]? = some (.cells [c.2.val].toArray c.1 (0, 0)) ∧ B b
def at0 (b : Nat) : Value := .pointer (some ⟨b, 0, none⟩)
def ReadsC (w : World) (B : Nat → Prop) (v : Value) : Pc → Prop
  | .int k n => v = .int k n
  | .bool b => v = .bool b
  | .str s => v = .string ⟨s.toArray⟩
  | .rd l => Reading w B v l
  | .nil => v = .slice none 0 0
  | .iv x => v = x.enc
  | .fnv f caps => ∃ bs : List Nat, v = .func (.func f) #[] (bs.map at0).toArray ∧ All2 (Cell1 w B) bs caps
  | .ref ty x => ∃ b, v = at0 b ∧ Cell1 w B b (ty, x)
def ReadsE (w : World) (B : Nat → Prop) (v : Value) : Bool × List Pc → Prop
  | (true, l) => ∃ vs : List Value, v = .agg vs.toArray ∧ All2 (ReadsC w B) vs l
  | (false, [x]) => ReadsC w B v x
  | (false, _) => False
def ReadsV (w : World) (B : Nat → Prop) (v : Value) : PV → Prop
  | .one x => ReadsC w B v x
  | .agg l => ReadsE w B v (true, l)
  | .tup l => ∃ vs : List Value, v = .tuple vs.toArray ∧ All2 (ReadsE w B) vs l
theorem Reading.mono {w w' : World} {B B' : Nat → Prop} {v : Value} {l : Ls} (h : Reading w B v l) (hb : ∀ b, B b → B' b ∧ (b < w.heap.size → w'.heap[b]? = w.heap[b]?)) : Reading w' B' v l := by
  obtain ⟨A, c, h1, h2, h3, h4⟩ := h
  refine ⟨A, c, h1, h2, h3, fun hn => ?_⟩
  obtain ⟨b, o, e1, e2, e3⟩ := h4 hn
  refine ⟨b, o, e1, fun j hj => ?_, (hb b e3).1⟩
  have hc := e2 j hj
  have hlt : b < w.heap.size := by
    have hj' : j < l.flat.length := by rw [l.flat_length]; exact hj
    rw [List.getElem?_eq_getElem hj'] at hc
    exact World.block_lt_of_cell? w _ hc
  rw [World.cell?_of_block (w := w) (a := ⟨b, o + j, none⟩) ((hb b e3).2 hlt)]
  exact hc
theorem Cell1.mono {w w' : World} {B B' : Nat → Prop} {b : Nat} {c : TypeId × Pb} (h : Cell1 w B b c) (hb : ∀ b, B b → B' b ∧ (b < w.heap.size → w'.heap[b]? = w.heap[b]?)) : Cell1 w' B' b c := by
  refine ⟨?_, (hb b h.2).1⟩
  rw [(hb b h.2).2 (Array.getElem?_eq_some_iff.1 h.1).1]
  exact h.1
theorem forall2_imp {α β : Type} {R S : α → β → Prop} (h : ∀ a b, R a b → S a b) : ∀ {l : List α} {m : List β}, All2 R l m → All2 S l m := by
  intro l m hh
  induction hh with
  | nil => exact .nil
  | cons h1 _ ih => exact .cons (h _ _ h1) ih
theorem ReadsC.mono {w w' : World} {B B' : Nat → Prop} {v : Value} {x : Pc} (h : ReadsC w B v x) (hb : ∀ b, B b → B' b ∧ (b < w.heap.size → w'.heap[b]? = w.heap[b]?)) : ReadsC w' B' v x := by
  cases x with
  | rd l => exact Reading.mono h hb
  | fnv f caps =>
    obtain ⟨bs, h1, h2⟩ := h
    exact ⟨bs, h1, forall2_imp (fun _ _ hc => hc.mono hb) h2⟩
  | ref ty x =>
    obtain ⟨b, h1, h2⟩ := h
    exact ⟨b, h1, h2.mono hb⟩
  | _ => exact h
theorem ReadsE.mono {w w' : World} {B B' : Nat → Prop} {v : Value} {x : Bool × List Pc} (h : ReadsE w B v x) (hb : ∀ b, B b → B' b ∧ (b < w.heap.size → w'.heap[b]? = w.heap[b]?)) : ReadsE w' B' v x := by
  obtain ⟨b, l⟩ := x
  cases b with
  | true =>
    obtain ⟨vs, h1, h2⟩ := h
    exact ⟨vs, h1, forall2_imp (fun _ _ hc => ReadsC.mono hc hb) h2⟩
  | false =>
    match l with
    | [x] => exact ReadsC.mono (x := x) h hb
    | [] => exact h
    | _ :: _ :: _ => exact h
theorem ReadsV.mono {w w' : World} {B B' : Nat → Prop} {v : Value} {x : PV} (h : ReadsV w B v x) (hb : ∀ b, B b → B' b ∧ (b < w.heap.size → w'.heap[b]? = w.heap[b]?)) : ReadsV w' B' v x := by
  cases x with
  | one x => exact ReadsC.mono h hb
  | agg l => exact ReadsE.mono (x := (true, l)) h hb
  | tup l =>
    obtain ⟨vs, h1, h2⟩ := h
    exact ⟨vs, h1, forall2_imp (fun _ _ hc => ReadsE.mono hc hb) h2⟩

/-! ### symbols for plain values -/
def conCaps : Nat → List (TypeId × Pb) → List (Nat × Nat) × List (Nat × Option SB)
  | _, [] => ([], [])
  | n, c :: l => let r := conCaps (n + 1) l; ((n, 0) :: r.1, (n, some (.ro c.1 [c.2.sc])) :: r.2)
def conC (n : Nat) : Pc → SC × List (Nat × Option SB)
  | .int k x => (.int k x, [])
  | .bool b => (.bool b, [])
  | .str s => (.str s, [])
  | .rd l => (.slc n, [(n, some (.read l))])
  | .nil => (.nils, [])
  | .iv x => (.iv x, [])
  | .fnv f caps => let r := conCaps n caps; (.fn f r.1, r.2)
  | .ref ty x => (.ptr n 0, [(n, some (.ro ty [x.sc]))])
def conL (n : Nat) : List Pc → List SC × List (Nat × Option SB)
  | [] => ([], [])
  | x :: l => let a := conC n x; let b := conL (n + a.2.length) l; (a.1 :: b.1, a.2 ++ b.2)
def conT (n : Nat) : List (Bool × List Pc) → List (Bool × List SC) × List (Nat × Option SB)
  | [] => ([], [])
  | x :: l => let a := conL n x.2; let b := conT (n + a.2.length) l; ((x.1, a.1) :: b.1, a.2 ++ b.2)
def conV (n : Nat) : PV → SV × List (Nat × Option SB)
  | .one x => let a := conC n x; (.one a.1, a.2)
  | .agg l => let a := conL n l; (.agg a.1, a.2)
  | .tup l => let a := conT n l; (.tup a.1, a.2)
/-- Arguments, each in its slot. -/
def conA (n t : Nat) : List PV → List (Nat × SV) × List (Nat × Option SB)
  | [] => ([], [])
  | x :: l => let a := conV n x; let b := conA (n + a.2.length) (t + 1) l; ((t, a.1) :: b.1, a.2 ++ b.2)
/-- What symbols of a piece of memory stand for. -/
structure Con (C : Ctx) (w : World) (n : Nat) (ρ ρ' : Env) (m : List (Nat × Option SB)) : Prop where
  le : ρ.le ρ'
  dom : ∀ k u, ρ' k = some u → ρ k = some u ∨ (n ≤ k ∧ k < n + m.length ∧ u.oneCell' = true)
  mem : ∀ k x, (k, x) ∈ m → n ≤ k ∧ k < n + m.length ∧ ∃ b u, x = some b ∧ b.mut = false ∧ ρ' k = some u ∧ SBok C ρ' w u b
def Free (ρ : Env) (n N : Nat) : Prop := ∀ k, n ≤ k → k < N → ρ k = none
theorem Con.nil {C : Ctx} {w : World} {n : Nat} {ρ : Env} : Con C w n ρ ρ [] := ⟨Env.le_refl ρ, fun k u h => .inl h, fun k x h => by cases h⟩
theorem Con.free {C : Ctx} {w : World} {n N : Nat} {ρ ρ' : Env} {m : List (Nat × Option SB)} (h : Con C w n ρ ρ' m) (hf : Free ρ n N) : Free ρ' (n + m.length) N := by
  intro k h1 h2
  cases hk : ρ' k with
  | none => rfl
  | some u =>
    rcases h.dom k u hk with h3 | h3
    · rw [hf k (by omega) h2] at h3; cases h3
    · omega
theorem Con.trans {C : Ctx} {w : World} {n : Nat} {ρ ρ' ρ'' : Env} {m m' : List (Nat × Option SB)} (h : Con C w n ρ ρ' m) (h' : Con C w (n + m.length) ρ' ρ'' m') : Con C w n ρ ρ'' (m ++ m') where
  le := Env.le_trans h.le h'.le
  dom := by
    intro k u hk
    rw [List.length_append]
    rcases h'.dom k u hk with h1 | ⟨h1, h2, h3⟩
    · rcases h.dom k u h1 with h4 | ⟨h4, h5, h6⟩
      · exact .inl h4
      · exact .inr ⟨h4, by omega, h6⟩
    · exact .inr ⟨by omega, by omega, h3⟩
  mem := by
    intro k x hx
    rw [List.length_append]
    rcases List.mem_append.1 hx with hx | hx
    · obtain ⟨h1, h2, b, u, e1, e2, e3, e4⟩ := h.mem k x hx
      exact ⟨h1, by omega, b, u, e1, e2, h'.le k u e3, e4.fr h'.le (Fr.refl (fun _ => False) w) fun _ _ h => h⟩
    · obtain ⟨h1, h2, h3⟩ := h'.mem k x hx
      exact ⟨by omega, by omega, h3⟩
theorem Con.one {C : Ctx} {w : World} {n : Nat} {ρ : Env} {u : Value} {b : SB} (hn : ρ n = none) (hu : u.oneCell' = true) (hm : b.mut = false) (hb : SBok C (ρ.set n u) w u b) : Con C w n ρ (ρ.set n u) [(n, some b)] where
  le := Env.set_le hn u
  dom := by
    intro k v hk
    simp only [List.length_cons, List.length_nil]
    by_cases h : k = n
    · subst h
      rw [Env.set_self] at hk
      cases hk
      exact .inr ⟨Nat.le_refl _, by omega, hu⟩
    · rw [env_set_ne h] at hk
      exact .inl hk
  mem := by
    intro k x hx
    simp only [List.mem_singleton, Prod.mk.injEq] at hx
    obtain ⟨rfl, rfl⟩ := hx
    exact ⟨Nat.le_refl _, by simp, b, u, rfl, hm, Env.set_self _ _ _, hb⟩
section
variable {C : Ctx} {w : World} {B : Nat → Prop} {N : Nat}
theorem at0_one (b : Nat) : (at0 b).oneCell' = true := rfl
theorem caps_ok (hB : ∀ b, B b → C.seen b) : ∀ (caps : List (TypeId × Pb)) (bs : List Nat) (n : Nat) (ρ : Env), All2 (Cell1 w B) bs caps → Free ρ n N → n + (conCaps n caps).2.length ≤ N →
    ∃ ρ', Con C w n ρ ρ' (conCaps n caps).2 ∧ (conCaps n caps).1.mapM (fun (p : Nat × Nat) => denPtr ρ' p.1 p.2) = some (bs.map at0) := by
  intro caps
  induction caps with
  | nil =>
    intro bs n ρ h _ _
    cases h
    exact ⟨ρ, .nil, rfl⟩
  | cons c l ih =>
    intro bs n ρ h hf hN
    cases h with
    | @cons b _ bs' _ h1 h2 =>
      have hlen : (conCaps n (c :: l)).2.length = (conCaps (n + 1) l).2.length + 1 := by simp [conCaps]
      have c1 : Con C w n ρ (ρ.set n (at0 b)) [(n, some (.ro c.1 [c.2.sc]))] :=
        .one (hf n (Nat.le_refl _) (by omega)) (at0_one b) rfl ⟨b, [c.2.val], rfl, by rw [denL_cons, c.2.den]; rfl, h1.1, hB b h1.2⟩
      obtain ⟨ρ', h3, h4⟩ := ih bs' (n + 1) (ρ.set n (at0 b)) h2 (c1.free hf) (by omega)
      refine ⟨ρ', c1.trans h3, ?_⟩
      simp only [conCaps, List.mapM_cons, h4]
      have : denPtr ρ' n 0 = some (at0 b) := by
        have := h3.le n _ (Env.set_self ρ n (at0 b))
        simp [denPtr, this, at0, baseOf]
      rw [this]; rfl
theorem conC_ok (hB : ∀ b, B b → C.seen b) {x : Pc} {v : Value} {n : Nat} {ρ : Env} (h : ReadsC w B v x) (hf : Free ρ n N) (hN : n + (conC n x).2.length ≤ N) :
    ∃ ρ', Con C w n ρ ρ' (conC n x).2 ∧ den ρ' (conC n x).1 = some v := by
  cases x with
  | int k i => cases h; exact ⟨ρ, .nil, rfl⟩
  | bool b => cases h; exact ⟨ρ, .nil, rfl⟩
  | str s => cases h; exact ⟨ρ, .nil, rfl⟩
  | nil => cases h; exact ⟨ρ, .nil, rfl⟩
  | iv x => cases h; exact ⟨ρ, .nil, rfl⟩
  | rd l =>
    simp only [conC, List.length_cons, List.length_nil] at hN
    refine ⟨ρ.set n v, .one (hf n (Nat.le_refl _) (by omega)) ?_ rfl ?_, Env.set_self _ _ _⟩
    · obtain ⟨A, c, rfl, _⟩ := h; rfl
    · exact Reading.mono h fun b hb => ⟨hB b hb, fun _ => rfl⟩
  | fnv f caps =>
    obtain ⟨bs, rfl, h2⟩ := h
    obtain ⟨ρ', h3, h4⟩ := caps_ok hB caps bs n ρ h2 hf hN
    refine ⟨ρ', h3, ?_⟩
    simp only [conC, den]
    rw [h4]; rfl
  | ref ty x =>
    simp only [conC, List.length_cons, List.length_nil] at hN
    obtain ⟨b, rfl, h2⟩ := h
    refine ⟨ρ.set n (at0 b), .one (hf n (Nat.le_refl _) (by omega)) rfl rfl ⟨b, [x.val], rfl, by rw [denL_cons, x.den]; rfl, h2.1, hB b h2.2⟩, ?_⟩
    simp [conC, den, denPtr, Env.set_self, at0, baseOf]
theorem conL_ok (hB : ∀ b, B b → C.seen b) : ∀ (l : List Pc) (vs : List Value) (n : Nat) (ρ : Env), All2 (ReadsC w B) vs l → Free ρ n N → n + (conL n l).2.length ≤ N →
    ∃ ρ', Con C w n ρ ρ' (conL n l).2 ∧ denL ρ' (conL n l).1 = some vs := by
  intro l
  induction l with
  | nil => intro vs n ρ h _ _; cases h; exact ⟨ρ, .nil, rfl⟩
  | cons x l ih =>
    intro vs n ρ h hf hN
    cases h with
    | @cons v _ vs' _ h1 h2 =>
      have hlen : (conL n (x :: l)).2.length = (conC n x).2.length + (conL (n + (conC n x).2.length) l).2.length := by simp [conL]
      obtain ⟨ρ1, g1, g2⟩ := conC_ok hB h1 hf (by omega)
      obtain ⟨ρ2, g3, g4⟩ := ih vs' _ ρ1 h2 (g1.free hf) (by omega)
      exact ⟨ρ2, g1.trans g3, denL_cons_some.2 ⟨v, vs', den_le g3.le g2, g4, rfl⟩⟩
theorem conT_ok (hB : ∀ b, B b → C.seen b) : ∀ (l : List (Bool × List Pc)) (vs : List Value) (n : Nat) (ρ : Env), All2 (ReadsE w B) vs l → Free ρ n N → n + (conT n l).2.length ≤ N →
    ∃ ρ', Con C w n ρ ρ' (conT n l).2 ∧ (conT n l).1.mapM (denC ρ') = some vs := by
  intro l
  induction l with
  | nil => intro vs n ρ h _ _; cases h; exact ⟨ρ, .nil, rfl⟩
  | cons x l ih =>
    intro vs n ρ h hf hN
    cases h with
    | @cons v _ vs' _ h1 h2 =>
      have hlen : (conT n (x :: l)).2.length = (conL n x.2).2.length + (conT (n + (conL n x.2).2.length) l).2.length := by simp [conT]
      obtain ⟨b, xl⟩ := x
      have first : ∃ ρ1, Con C w n ρ ρ1 (conL n xl).2 ∧ denC ρ1 (b, (conL n xl).1) = some v := by
        cases b with
        | true =>
          obtain ⟨us, rfl, hus⟩ := h1
          obtain ⟨ρ1, g1, g2⟩ := conL_ok hB xl us n ρ hus hf (by simp only at hlen; omega)
          exact ⟨ρ1, g1, by simp only [denC, g2, Option.map_some]⟩
        | false =>
          match xl with
          | [] => exact h1.elim
          | _ :: _ :: _ => exact h1.elim
          | [y] =>
            obtain ⟨ρ1, g1, g2⟩ := conL_ok hB [y] [v] n ρ (.cons h1 .nil) hf (by simp only at hlen; omega)
            refine ⟨ρ1, g1, ?_⟩
            obtain ⟨v', us, e1, e2, e3⟩ := denL_cons_some.1 g2
            cases e3
            exact e1
      obtain ⟨ρ1, g1, g2⟩ := first
      obtain ⟨ρ2, g3, g4⟩ := ih vs' _ ρ1 h2 (g1.free hf) (by simp only at hlen; omega)
      refine ⟨ρ2, g1.trans g3, ?_⟩
      simp only [conT, List.mapM_cons, g4, denC_le g3.le g2]
      rfl
theorem conV_ok (hB : ∀ b, B b → C.seen b) {x : PV} {v : Value} {n : Nat} {ρ : Env} (h : ReadsV w B v x) (hf : Free ρ n N) (hN : n + (conV n x).2.length ≤ N) :
    ∃ ρ', Con C w n ρ ρ' (conV n x).2 ∧ denV ρ' (conV n x).1 = some v := by
  cases x with
  | one x => exact conC_ok hB h hf hN
  | agg l =>
    obtain ⟨vs, rfl, h2⟩ := h
    obtain ⟨ρ', g1, g2⟩ := conL_ok hB l vs n ρ h2 hf hN
    exact ⟨ρ', g1, by simp only [conV, denV, g2, Option.map_some]⟩
  | tup l =>
    obtain ⟨vs, rfl, h2⟩ := h
    obtain ⟨ρ', g1, g2⟩ := conT_ok hB l vs n ρ h2 hf hN
    exact ⟨ρ', g1, by simp only [conV, denV, g2, Option.map_some]⟩
theorem conA_ok (hB : ∀ b, B b → C.seen b) : ∀ (l : List PV) (vs : List Value) (n t : Nat) (ρ : Env), All2 (ReadsV w B) vs l → Free ρ n N → n + (conA n t l).2.length ≤ N →
    ∃ ρ', Con C w n ρ ρ' (conA n t l).2 ∧ ∀ j x, look j (conA n t l).1 = some x → ∃ i v, j = t + i ∧ vs[i]? = some v ∧ denV ρ' x = some v := by
  intro l
  induction l with
  | nil => intro vs n t ρ h _ _; cases h; exact ⟨ρ, .nil, fun j x h => by cases h⟩
  | cons x l ih =>
    intro vs n t ρ h hf hN
    cases h with
    | @cons v _ vs' _ h1 h2 =>
      have hlen : (conA n t (x :: l)).2.length = (conV n x).2.length + (conA (n + (conV n x).2.length) (t + 1) l).2.length := by simp [conA]
      obtain ⟨ρ1, g1, g2⟩ := conV_ok hB h1 hf (by omega)
      obtain ⟨ρ2, g3, g4⟩ := ih vs' _ (t + 1) ρ1 h2 (g1.free hf) (by omega)
      refine ⟨ρ2, g1.trans g3, fun j y hy => ?_⟩
      simp only [conA, look_cons] at hy
      split at hy
      · rename_i e
        cases hy
        exact ⟨0, v, by omega, rfl, denV_le g3.le g2⟩
      · obtain ⟨i, u, e1, e2, e3⟩ := g4 j y hy
        exact ⟨i + 1, u, by omega, by simpa using e2, e3⟩
end
end Go.Proofs.YtglfkihckkjniaaGreatDoor.Vx
