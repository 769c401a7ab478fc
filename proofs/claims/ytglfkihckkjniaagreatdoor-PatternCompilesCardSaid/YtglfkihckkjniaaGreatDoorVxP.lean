/-
VX, part P: contracts of functions that turn nothing. No statement of the seat is proved here.
-/
import Derived.Test.YtglfkihckkjniaaGreatDoorVxO
set_option linter.unusedVariables false
set_option linter.unusedSimpArgs false
namespace Go.Proofs.YtglfkihckkjniaaGreatDoor.Vx
open Go Go.RowKit

/-! ### from symbols to plain values -/
def pbOf : SC → Option Pb
  | .int k n => some (.int k n)
  | .str s => some (.str s)
  | _ => none
def refOf (m : Mem) (k : Nat) : Option (TypeId × Pb) :=
  match m k with
  | some (.cells ty [x]) => (pbOf x).map fun p => (ty, p)
  | some (.ro ty [x]) => (pbOf x).map fun p => (ty, p)
  | _ => none
def absCaps (m : Mem) : List (Nat × Nat) → Option (List (TypeId × Pb))
  | [] => some []
  | (k, off) :: l => bif Nat.beq off 0 then (refOf m k).bind fun c => (absCaps m l).map fun r => c :: r else none
/-- t: what is looked for, where a nil slice or a literal stands. -/
def absC (m : Mem) (t : Pc) (x : SC) : Option Pc :=
  match x with
  | .int k n => some (.int k n)
  | .bool b => some (.bool b)
  | .tt => some (.bool true)
  | .ff => some (.bool false)
  | .str s => some (.str s)
  | .slc k =>
    match m k with
    | some (.read l) => some (.rd l)
    | some (.row _ l) => some (.rd l)
    | some (.lit _ n cs) =>
      match t with
      | .rd l => bif Nat.beq cs.length (n * l.sz) && Nat.ble n 1000000 then (snocs l.sz n cs l.emptyOf).map fun l' => .rd l' else none
      | _ => none
    | _ => none
  | .nils =>
    match t with
    | .rd l => some (.rd l.emptyOf)
    | _ => some .nil
  | .iv x => some (.iv x)
  | .fn f caps => (absCaps m caps).map fun r => .fnv f r
  | .ptr k off => bif Nat.beq off 0 then (refOf m k).map fun c => .ref c.1 c.2 else none
  | _ => none
def absL (m : Mem) : List Pc → List SC → Option (List Pc)
  | _, [] => some []
  | [], x :: l => (absC m .nil x).bind fun p => (absL m [] l).map fun r => p :: r
  | t :: ts, x :: l => (absC m t x).bind fun p => (absL m ts l).map fun r => p :: r
def absT (m : Mem) : List (Bool × List Pc) → List (Bool × List SC) → Option (List (Bool × List Pc))
  | _, [] => some []
  | [], x :: l => (absL m [] x.2).bind fun p => (absT m [] l).map fun r => (x.1, p) :: r
  | t :: ts, x :: l => (absL m t.2 x.2).bind fun p => (absT m ts l).map fun r => (x.1, p) :: r
def absV (m : Mem) (t : PV) (x : SV) : Option PV :=
  match x with
  | .one x => (absC m (match t with | .one t => t | _ => .nil) x).map .one
  | .agg l => (absL m (match t with | .agg t => t | _ => []) l).map .agg
  | .tup l => (absT m (match t with | .tup t => t | _ => []) l).map .tup
def absA (m : Mem) : List PV → List SV → Option (List PV)
  | _, [] => some []
  | [], x :: l => (absV m (.tup []) x).bind fun p => (absA m [] l).map fun r => p :: r
  | t :: ts, x :: l => (absV m t x).bind fun p => (absA m ts l).map fun r => p :: r
def namesA : List SV → List Nat
  | [] => []
  | x :: l => namesSV x ++ namesA l

section
variable {C : Ctx} {ρ : Env} {S : AS} {a : Act} {w : World} {m : Mem} {B : Nat → Prop}
/-- What some names cover. -/
def Covers (ρ : Env) (S : AS) (B : Nat → Prop) (ns : List Nat) : Prop := ∀ k ∈ ns, ∀ b u, S.blk k = some b → ρ k = some u → ∀ g, foot u b = some g → B g
theorem pbOf_den {x : SC} {p : Pb} (h : pbOf x = some p) : den ρ x = some p.val := by
  cases x <;> cases h <;> rfl
theorem refOf_ok (h : Sat C ρ S a w) (hm : ∀ k b, m k = some b → S.blk k = some b) {k : Nat} {c : TypeId × Pb} (hc : refOf m k = some c) (hB : Covers ρ S B [k]) :
    ∃ u b, ρ k = some u ∧ baseOf u = some b ∧ Cell1 w B b c := by
  unfold refOf at hc
  have key : ∀ (sb : SB) (ty : TypeId) (x : SC), S.blk k = some sb → (sb = .cells ty [x] ∨ sb = .ro ty [x]) → (pbOf x).map (fun p => (ty, p)) = some c → ∃ u b, ρ k = some u ∧ baseOf u = some b ∧ Cell1 w B b c := by
    intro sb ty x hb hs hx
    rw [Option.map_eq_some_iff] at hx
    obtain ⟨p, hp, rfl⟩ := hx
    obtain ⟨u, hu, hok⟩ := h.mem k sb hb
    have hf : foot u sb = blockOf u := by rcases hs with rfl | rfl <;> rfl
    have : ∃ b vs, baseOf u = some b ∧ denL ρ [x] = some vs ∧ w.heap[b]? = some (.cells vs.toArray ty (0, 0)) := by
      rcases hs with rfl | rfl
      · obtain ⟨b, vs, h1, h2, h3, _⟩ := hok; exact ⟨b, vs, h1, h2, h3⟩
      · obtain ⟨b, vs, h1, h2, h3, _⟩ := hok; exact ⟨b, vs, h1, h2, h3⟩
    obtain ⟨b, vs, h1, h2, h3⟩ := this
    obtain ⟨v, us, e1, e2, e3⟩ := denL_cons_some.1 h2
    rw [pbOf_den hp] at e1
    cases e1
    cases e2
    subst e3
    exact ⟨u, b, hu, h1, h3, hB k (by simp) sb u hb hu b (by rw [hf]; exact blockOf_base h1)⟩
  split at hc
  · rename_i ty x hmk; exact key _ ty x (hm k _ hmk) (.inl rfl) hc
  · rename_i ty x hmk; exact key _ ty x (hm k _ hmk) (.inr rfl) hc
  · cases hc
theorem absCaps_ok (h : Sat C ρ S a w) (hm : ∀ k b, m k = some b → S.blk k = some b) : ∀ {l : List (Nat × Nat)} {r : List (TypeId × Pb)} {vs : List Value}, absCaps m l = some r → Covers ρ S B (l.map (·.1)) → l.mapM (fun (p : Nat × Nat) => denPtr ρ p.1 p.2) = some vs →
    ∃ bs : List Nat, vs = bs.map at0 ∧ All2 (Cell1 w B) bs r := by
  intro l
  induction l with
  | nil => intro r vs hr _ hv; cases hr; cases hv; exact ⟨[], rfl, .nil⟩
  | cons x l ih =>
    obtain ⟨k, off⟩ := x
    intro r vs hr hB hv
    unfold absCaps at hr
    cases ho : Nat.beq off 0 with
    | false => rw [ho] at hr; cases hr
    | true =>
      have := Nat.eq_of_beq_eq_true ho
      subst this
      rw [ho, cond_true, Option.bind_eq_some_iff] at hr
      obtain ⟨c, h1, h2⟩ := hr
      rw [Option.map_eq_some_iff] at h2
      obtain ⟨r', h3, rfl⟩ := h2
      obtain ⟨u, b, g1, g2, g3⟩ := refOf_ok h hm h1 (fun j hj => hB j (by simp at hj; subst hj; simp))
      rw [List.mapM_cons] at hv
      have e1 : denPtr ρ k 0 = some (at0 b) := by simp [denPtr, g1, g2, at0]
      cases hl : l.mapM (fun (p : Nat × Nat) => denPtr ρ p.1 p.2) with
      | none => rw [hl] at hv; simp [e1] at hv
      | some us =>
        rw [hl] at hv
        simp [e1] at hv
        obtain ⟨bs, q1, q2⟩ := ih h3 (fun j hj => hB j (by simp at hj ⊢; exact .inr hj)) hl
        exact ⟨b :: bs, by rw [← hv, q1]; rfl, .cons g3 q2⟩
theorem reading_of {k : Nat} {l : Ls} (hv : ∃ u, ρ k = some u ∧ SBok C ρ w u (.read l)) {v : Value} (hk : ρ k = some v) (hB : ∀ g, foot v (.read l) = some g → B g) : Reading w B v l := by
  obtain ⟨u, h1, A, c, h2, h3, h4, h5⟩ := hv
  rw [hk] at h1; cases h1
  refine ⟨A, c, h2, h3, h4, fun hn => ?_⟩
  obtain ⟨b, o, e1, e2, e3⟩ := h5 hn
  refine ⟨b, o, e1, e2, hB b ?_⟩
  simp only [foot]
  rw [if_neg (by omega), h2, e1]; rfl
theorem absC_ok (h : Sat C ρ S a w) (hm : ∀ k b, m k = some b → S.blk k = some b) {t : Pc} {x : SC} {p : Pc} {v : Value} (hB : Covers ρ S B (namesSC x)) (hp : absC m t x = some p) (hv : den ρ x = some v) : ReadsC w B v p := by
  unfold absC at hp
  split at hp
  · cases hp; cases hv; rfl
  · cases hp; cases hv; rfl
  · cases hp; cases hv; rfl
  · cases hp; cases hv; rfl
  · cases hp; cases hv; rfl
  · rename_i k
    split at hp
    · rename_i l hmk
      cases hp
      have hb := hm k _ hmk
      exact reading_of (h.mem k _ hb) hv fun g hg => hB k (by simp [namesSC]) _ v hb hv g hg
    · rename_i ty l hmk
      cases hp
      have hb := hm k _ hmk
      obtain ⟨u, h1, h2⟩ := h.mem k _ hb
      refine reading_of ⟨u, h1, read_of_row h2⟩ hv fun g hg => hB k (by simp [namesSC]) _ v hb hv g ?_
      simp only [foot] at hg ⊢
      split at hg
      · cases hg
      · exact hg
    · rename_i ty n cs hmk
      split at hp
      · rename_i l
        cases hc : Nat.beq cs.length (n * l.sz) && Nat.ble n 1000000 with
        | false => rw [hc] at hp; cases hp
        | true =>
          rw [hc, cond_true, Option.map_eq_some_iff] at hp
          obtain ⟨l', h1, rfl⟩ := hp
          simp only [Bool.and_eq_true] at hc
          have c1 := Nat.eq_of_beq_eq_true hc.1
          have c2 := Nat.le_of_ble_eq_true hc.2
          have hb := hm k _ hmk
          obtain ⟨u, hu, b, vs, g1, g2, g3, g4⟩ := h.mem k _ hb
          have : u = v := by simp only [den] at hv; rw [hu] at hv; exact Option.some.inj hv
          subst this
          obtain ⟨e1, e2, e3⟩ := l.emptyOf_ok
          rw [← e1] at h1
          obtain ⟨us, q1, q2, q3, q4⟩ := snocs_ok ρ n cs l.emptyOf l' h1 (by rw [e1]; omega)
          rw [e1, ← c1, List.take_length, g2] at q1
          cases q1
          rw [e3, List.nil_append] at q2
          rw [e2, Nat.zero_add] at q3
          refine ⟨some ⟨b, 0, none⟩, n, by rw [q3]; exact g1, by omega, by rw [q3]; simp only [maxLen]; omega, fun _ => ⟨b, 0, rfl, fun j hj => ?_, ?_⟩⟩
          · rw [q2, Nat.zero_add]
            simp [World.cell?, g3]
          · exact hB k (by simp [namesSC]) _ u hb hu b (by subst g1; rfl)
      · cases hp
    · cases hp
  · simp only [den, Option.some.injEq] at hv
    subst hv
    split at hp
    · rename_i l
      cases hp
      obtain ⟨e1, e2, e3⟩ := l.emptyOf_ok
      refine ⟨none, 0, by rw [e2], by omega, by omega, fun hn => by omega⟩
    · cases hp; rfl
  · cases hp; cases hv; rfl
  · rename_i f caps
    rw [Option.map_eq_some_iff] at hp
    obtain ⟨r, h1, rfl⟩ := hp
    simp only [den, Option.map_eq_some_iff] at hv
    obtain ⟨vs, h2, rfl⟩ := hv
    obtain ⟨bs, h3, h4⟩ := absCaps_ok h hm h1 hB h2
    exact ⟨bs, by rw [h3], h4⟩
  · rename_i k off
    cases ho : Nat.beq off 0 with
    | false => rw [ho] at hp; cases hp
    | true =>
      have := Nat.eq_of_beq_eq_true ho
      subst this
      rw [ho, cond_true, Option.map_eq_some_iff] at hp
      obtain ⟨c, h1, rfl⟩ := hp
      obtain ⟨u, b, g1, g2, g3⟩ := refOf_ok h hm h1 hB
      simp only [den, denPtr, g1, Option.bind_some, g2, Option.map_some, Option.some.injEq] at hv
      exact ⟨b, hv.symm, g3⟩
  · cases hp
theorem Covers.left {x y : List Nat} (h : Covers ρ S B (x ++ y)) : Covers ρ S B x := fun k hk => h k (List.mem_append_left _ hk)
theorem Covers.right {x y : List Nat} (h : Covers ρ S B (x ++ y)) : Covers ρ S B y := fun k hk => h k (List.mem_append_right _ hk)
theorem absL_ok (h : Sat C ρ S a w) (hm : ∀ k b, m k = some b → S.blk k = some b) : ∀ {l : List SC} {ts p : List Pc} {vs : List Value}, Covers ρ S B (namesL l) → absL m ts l = some p → denL ρ l = some vs → All2 (ReadsC w B) vs p := by
  intro l
  induction l with
  | nil =>
    intro ts p vs _ hp hv
    cases hv
    cases ts <;> cases hp <;> exact .nil
  | cons x l ih =>
    intro ts p vs hB hp hv
    obtain ⟨v, us, e1, e2, rfl⟩ := denL_cons_some.1 hv
    have key : ∃ t ts', (absC m t x).bind (fun p => (absL m ts' l).map fun r => p :: r) = some p := by
      cases ts with
      | nil => exact ⟨_, _, hp⟩
      | cons t ts => exact ⟨_, _, hp⟩
    obtain ⟨t, ts', hp⟩ := key
    rw [Option.bind_eq_some_iff] at hp
    obtain ⟨q, h1, h2⟩ := hp
    rw [Option.map_eq_some_iff] at h2
    obtain ⟨r, h3, rfl⟩ := h2
    exact .cons (absC_ok h hm (Covers.left (y := namesL l) hB) h1 e1) (ih (Covers.right (x := namesSC x) hB) h3 e2)
theorem absT_ok (h : Sat C ρ S a w) (hm : ∀ k b, m k = some b → S.blk k = some b) : ∀ {l : List (Bool × List SC)} {ts p : List (Bool × List Pc)} {vs : List Value}, Covers ρ S B (namesL (l.flatMap (·.2))) → absT m ts l = some p → l.mapM (denC ρ) = some vs → All2 (ReadsE w B) vs p := by
  intro l
  induction l with
  | nil =>
    intro ts p vs _ hp hv
    cases hv
    cases ts <;> cases hp <;> exact .nil
  | cons x l ih =>
    intro ts p vs hB hp hv
    have hnm : ∀ a b : List SC, namesL (a ++ b) = namesL a ++ namesL b := by
      intro a b
      induction a with
      | nil => rfl
      | cons y a ih => simp [namesL, ih]
    rw [List.flatMap_cons, hnm] at hB
    have key : ∃ t ts', (absL m t x.2).bind (fun p => (absT m ts' l).map fun r => (x.1, p) :: r) = some p := by
      cases ts with
      | nil => exact ⟨_, _, hp⟩
      | cons t ts => exact ⟨_, _, hp⟩
    obtain ⟨t, ts', hp⟩ := key
    rw [Option.bind_eq_some_iff] at hp
    obtain ⟨q, h1, h2⟩ := hp
    rw [Option.map_eq_some_iff] at h2
    obtain ⟨r, h3, rfl⟩ := h2
    rw [List.mapM_cons] at hv
    cases hx : denC ρ x with
    | none => simp [hx] at hv
    | some v =>
      cases hl : l.mapM (denC ρ) with
      | none => simp [hx, hl] at hv
      | some us =>
        simp [hx, hl] at hv
        subst hv
        refine .cons ?_ (ih hB.right h3 hl)
        obtain ⟨b, xl⟩ := x
        cases b with
        | true =>
          simp only [denC, Option.map_eq_some_iff] at hx
          obtain ⟨vs, g1, rfl⟩ := hx
          exact ⟨vs, rfl, absL_ok h hm hB.left h1 g1⟩
        | false =>
          match xl with
          | [] => cases hx
          | _ :: _ :: _ => cases hx
          | [y] =>
            have : denL ρ [y] = some [v] := denL_cons_some.2 ⟨v, [], hx, rfl, rfl⟩
            have := absL_ok h hm hB.left h1 this
            cases this with
            | cons g1 g2 => cases g2; exact g1
theorem absV_ok (h : Sat C ρ S a w) (hm : ∀ k b, m k = some b → S.blk k = some b) {t p : PV} {x : SV} {v : Value} (hB : Covers ρ S B (namesSV x)) (hp : absV m t x = some p) (hv : denV ρ x = some v) : ReadsV w B v p := by
  cases x with
  | one x =>
    simp only [absV, Option.map_eq_some_iff] at hp
    obtain ⟨q, h1, rfl⟩ := hp
    exact absC_ok h hm hB h1 hv
  | agg l =>
    simp only [absV, Option.map_eq_some_iff] at hp
    obtain ⟨q, h1, rfl⟩ := hp
    simp only [denV, Option.map_eq_some_iff] at hv
    obtain ⟨vs, h2, rfl⟩ := hv
    exact ⟨vs, rfl, absL_ok h hm hB h1 h2⟩
  | tup l =>
    simp only [absV, Option.map_eq_some_iff] at hp
    obtain ⟨q, h1, rfl⟩ := hp
    simp only [denV, Option.map_eq_some_iff] at hv
    obtain ⟨vs, h2, rfl⟩ := hv
    exact ⟨vs, rfl, absT_ok h hm hB h1 h2⟩
end
end Go.Proofs.YtglfkihckkjniaaGreatDoor.Vx
