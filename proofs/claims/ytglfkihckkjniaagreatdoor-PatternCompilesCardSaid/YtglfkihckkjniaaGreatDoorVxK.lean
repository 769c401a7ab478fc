/-
VX, part K: what one abstract state says more than another is sound. No statement of the seat is proved here.
-/
import Derived.Test.YtglfkihckkjniaaGreatDoorVxJ
set_option linter.unusedVariables false
set_option linter.unusedSimpArgs false
namespace Go.Proofs.YtglfkihckkjniaaGreatDoor.Vx
open Go Go.RowKit

abbrev Sg := List (Nat × Option Nat)
def imEnv (ρ : Env) (σ : Sg) : Env := fun k =>
  if k < 16 then ρ k else match look k σ with
    | some (some j) => ρ j
    | some none => some (.slice none 0 0)
    | none => none
def SgLe (σ σ' : Sg) : Prop := ∀ k r, look k σ = some r → look k σ' = some r
structure ULe (u u' : Un) : Prop where
  s : SgLe u.σ u'.σ
  p : ∀ q ∈ u.ps, q ∈ u'.ps
theorem ULe.refl (u : Un) : ULe u u := ⟨fun _ _ h => h, fun _ h => h⟩
theorem ULe.trans {a b c : Un} (h : ULe a b) (k : ULe b c) : ULe a c := ⟨fun i r e => k.s i r (h.s i r e), fun q hq => k.p q (h.p q hq)⟩
theorem ULe.ps (u : Un) (q : Prop) : ULe u { u with ps := q :: u.ps } := ⟨fun _ _ h => h, fun q hq => List.mem_cons_of_mem _ hq⟩
def Ps (u : Un) : Prop := ∀ q ∈ u.ps, q
structure Good (σ : Sg) : Prop where
  inj : ∀ k1 k2 j, look k1 σ = some (some j) → look k2 σ = some (some j) → k1 = k2
  pin : ∀ k r, look k σ = some r → k < 16 → r = some k
theorem usedBy_look {k j : Nat} : ∀ {σ : Sg}, usedBy j σ = false → look k σ ≠ some (some j) := by
  intro σ
  induction σ with
  | nil => intro _ h; cases h
  | cons x σ ih =>
    obtain ⟨i, r⟩ := x
    intro h hl
    rw [look_cons] at hl
    cases r with
    | none =>
      simp only [usedBy] at h
      split at hl
      · cases hl
      · exact ih h hl
    | some i' =>
      simp only [usedBy, Bool.or_eq_false_iff] at h
      split at hl
      · cases hl
        rw [Nat.beq_refl] at h
        cases h.1
      · exact ih h.2 hl
theorem uName_ok {u u' : Un} {k k' : Nat} (h : uName u k k' = some u') : ULe u u' ∧ look k u'.σ = some (some k') ∧ (k < 16 → k = k') ∧ (Good u.σ → Good u'.σ) ∧ u'.ps = u.ps := by
  unfold uName at h
  cases hc : Nat.blt k 16 && !Nat.beq k k' with
  | true => rw [hc] at h; cases h
  | false =>
    rw [hc, cond_false] at h
    have hpin : k < 16 → k = k' := by
      intro hk
      have : Nat.blt k 16 = true := by simpa [Nat.blt_eq] using hk
      rw [this] at hc
      simp only [Bool.true_and, Bool.not_eq_false'] at hc
      exact Nat.eq_of_beq_eq_true hc
    split at h
    · rename_i j hl
      cases hj : Nat.beq j k' with
      | false => rw [hj] at h; cases h
      | true =>
        rw [hj, cond_true, Option.some.injEq] at h
        subst h
        have := Nat.eq_of_beq_eq_true hj
        subst this
        exact ⟨ULe.refl _, hl, hpin, fun g => g, rfl⟩
    · cases h
    · rename_i hl
      cases hu : usedBy k' u.σ with
      | true => rw [hu] at h; cases h
      | false =>
        rw [hu, cond_false, Option.some.injEq] at h
        subst h
        refine ⟨⟨fun i r hi => ?_, fun q hq => hq⟩, by rw [look_cons, if_pos rfl], hpin, fun g => ⟨?_, ?_⟩, rfl⟩
        · show look i ((k, some k') :: u.σ) = some r
          rw [look_cons, if_neg (by rintro rfl; rw [hl] at hi; cases hi)]
          exact hi
        · intro k1 k2 j h1 h2
          rw [look_cons] at h1 h2
          split at h1
          · rename_i e1
            cases h1
            split at h2
            · rename_i e2; omega
            · exact absurd h2 (usedBy_look hu)
          · split at h2
            · cases h2
              exact absurd h1 (usedBy_look hu)
            · exact g.inj k1 k2 j h1 h2
        · intro i r hi h16
          rw [look_cons] at hi
          split at hi
          · rename_i e; subst e; cases hi; rw [hpin h16]
          · exact g.pin i r hi h16
theorem uNil_ok {u u' : Un} {k : Nat} (h : uNil u k = some u') : ULe u u' ∧ look k u'.σ = some none ∧ ¬ k < 16 ∧ (Good u.σ → Good u'.σ) ∧ u'.ps = u.ps := by
  unfold uNil at h
  cases hc : Nat.blt k 16 with
  | true => rw [hc] at h; cases h
  | false =>
    rw [hc, cond_false] at h
    have hk : ¬ k < 16 := by
      intro hk
      have : Nat.blt k 16 = true := by simpa [Nat.blt_eq] using hk
      rw [this] at hc; cases hc
    split at h
    · rename_i hl
      cases h
      exact ⟨ULe.refl _, hl, hk, fun g => g, rfl⟩
    · cases h
    · rename_i hl
      cases h
      refine ⟨⟨fun i r hi => ?_, fun q hq => hq⟩, by rw [look_cons, if_pos rfl], hk, fun g => ⟨?_, ?_⟩, rfl⟩
      · show look i ((k, none) :: u.σ) = some r
        rw [look_cons, if_neg (by rintro rfl; rw [hl] at hi; cases hi)]
        exact hi
      · intro k1 k2 j h1 h2
        rw [look_cons] at h1 h2
        split at h1
        · cases h1
        · split at h2
          · cases h2
          · exact g.inj k1 k2 j h1 h2
      · intro i r hi h16
        rw [look_cons] at hi
        split at hi
        · omega
        · exact g.pin i r hi h16
theorem imEnv_name {ρ : Env} {σ : Sg} {k k' : Nat} (h : look k σ = some (some k')) (hp : k < 16 → k = k') : imEnv ρ σ k = ρ k' := by
  unfold imEnv
  by_cases hk : k < 16
  · rw [if_pos hk, hp hk]
  · rw [if_neg hk, h]
theorem imEnv_nil {ρ : Env} {σ : Sg} {k : Nat} (h : look k σ = some none) (hp : ¬ k < 16) : imEnv ρ σ k = some (.slice none 0 0) := by
  unfold imEnv
  rw [if_neg hp, h]

/-- What the unification of x with y gives, under any later matching of names. -/
structure UOk (u u' : Un) (P : Sg → Prop) : Prop where
  le : ULe u u'
  good : Good u.σ → Good u'.σ
  den : Ps u' → ∀ σ, SgLe u'.σ σ → P σ
theorem uNames_ok {ρ : Env} : ∀ {l l' : List (Nat × Nat)} {u u' : Un}, uNames u l l' = some u' → UOk u u' fun σ => ∀ vs : List Value, (l'.mapM fun (k, off) => denPtr ρ k off) = some vs → (l.mapM fun (k, off) => denPtr (imEnv ρ σ) k off) = some vs := by
  intro l
  induction l with
  | nil =>
    intro l' u u' h
    cases l' with
    | nil => cases h; exact ⟨ULe.refl _, fun g => g, fun _ _ _ vs hv => hv⟩
    | cons => cases h
  | cons x l ih =>
    obtain ⟨k, f⟩ := x
    intro l' u u' h
    cases l' with
    | nil => cases h
    | cons y l' =>
      obtain ⟨k', f'⟩ := y
      unfold uNames at h
      cases hf : Nat.beq f f' with
      | false => rw [hf] at h; cases h
      | true =>
        have := Nat.eq_of_beq_eq_true hf
        subst this
        rw [hf, cond_true, Option.bind_eq_some_iff] at h
        obtain ⟨u1, h1, h2⟩ := h
        obtain ⟨a1, a2, a3, a4, a5⟩ := uName_ok h1
        have b := ih h2
        refine ⟨a1.trans b.le, fun g => b.good (a4 g), fun hp σ hσ vs hv => ?_⟩
        rw [List.mapM_cons] at hv ⊢
        have e : denPtr (imEnv ρ σ) k f = denPtr ρ k' f := by
          unfold denPtr
          rw [imEnv_name (hσ k _ (b.le.s k _ a2)) a3]
        simp only [e]
        cases hd : denPtr ρ k' f with
        | none => simp [hd] at hv
        | some v =>
          simp only [hd] at hv
          cases hm : l'.mapM (fun (k, off) => denPtr ρ k off) with
          | none => simp [hm] at hv
          | some us =>
            simp [hm] at hv
            have := b.den hp σ hσ us hm
            simp [this, hv]
theorem uSC_ok {ρ : Env} {x y : SC} {u u' : Un} (h : uSC u x y = some u') : y ≠ .und ∧ UOk u u' fun σ => ∀ v, den ρ y = some v → den (imEnv ρ σ) x = some v := by
  have one : ∀ (q : Prop), some { u with ps := q :: u.ps } = some u' → ∀ {Z : Sg → Prop}, (q → ∀ σ, Z σ) → UOk u u' Z := by
    intro q hq Z hz
    cases hq
    exact ⟨ULe.ps u q, fun g => g, fun hp σ _ => hz (hp q (List.mem_cons_self ..)) σ⟩
  unfold uSC at h
  split at h
  · rename_i k n k' n'
    cases hk : decide (k = k') with
    | false => rw [hk] at h; cases h
    | true =>
      have := of_decide_eq_true hk
      subst this
      rw [hk, cond_true] at h
      exact ⟨by simp, one _ h fun e σ v hv => by rw [← hv]; simp [den, e]⟩
  · rename_i b y
    rw [Option.map_eq_some_iff] at h
    obtain ⟨c, hc, h⟩ := h
    refine ⟨(by rintro rfl; cases hc), one _ (congrArg some h) fun e σ v hv => ?_⟩
    rw [boolOf_den hc ρ] at hv
    rw [← hv, e]; rfl
  · split at h
    · cases h; exact ⟨by simp, ULe.refl _, fun g => g, fun _ _ _ v hv => hv⟩
    · rw [Option.map_eq_some_iff] at h
      obtain ⟨c, hc, h⟩ := h
      refine ⟨(by rintro rfl; cases hc), one _ (congrArg some h) fun e σ v hv => ?_⟩
      rw [boolOf_den hc ρ] at hv
      rw [← hv, e]; rfl
  · split at h
    · cases h; exact ⟨by simp, ULe.refl _, fun g => g, fun _ _ _ v hv => hv⟩
    · rw [Option.map_eq_some_iff] at h
      obtain ⟨c, hc, h⟩ := h
      refine ⟨(by rintro rfl; cases hc), one _ (congrArg some h) fun e σ v hv => ?_⟩
      rw [boolOf_den hc ρ] at hv
      rw [← hv, e]; rfl
  · exact ⟨by simp, one _ h fun e σ v hv => by rw [← hv]; simp [den, e]⟩
  · rename_i k f k' f'
    cases hf : Nat.beq f f' with
    | false => rw [hf] at h; cases h
    | true =>
      have := Nat.eq_of_beq_eq_true hf
      subst this
      rw [hf, cond_true] at h
      obtain ⟨a1, a2, a3, a4, a5⟩ := uName_ok h
      refine ⟨by simp, a1, a4, fun _ σ hσ v hv => ?_⟩
      simp only [den, denPtr] at hv ⊢
      rw [imEnv_name (hσ k _ a2) a3]; exact hv
  · rename_i k b k' b'
    rw [Option.map_eq_some_iff] at h
    obtain ⟨u1, h1, h2⟩ := h
    obtain ⟨a1, a2, a3, a4, a5⟩ := uName_ok h1
    cases h2
    refine ⟨by simp, a1.trans (ULe.ps u1 _), a4, fun hp σ hσ v hv => ?_⟩
    have hb : b' = b := hp _ (List.mem_cons_self ..)
    subst hb
    cases b' with
    | false => exact hv
    | true =>
      simp only [den, denPtr, if_true] at hv ⊢
      rw [imEnv_name (hσ k _ a2) a3]; exact hv
  · split at h
    · refine ⟨by simp, one _ h fun e σ v hv => ?_⟩
      subst e
      simp only [den] at hv
      split at hv
      · exact hv
      · cases hv
    · cases h
  · rename_i k b k' f'
    cases hf : Nat.beq f' 0 with
    | false => rw [hf] at h; cases h
    | true =>
      have := Nat.eq_of_beq_eq_true hf
      subst this
      rw [hf, cond_true, Option.map_eq_some_iff] at h
      obtain ⟨u1, h1, h2⟩ := h
      obtain ⟨a1, a2, a3, a4, a5⟩ := uName_ok h1
      cases h2
      refine ⟨by simp, a1.trans (ULe.ps u1 _), a4, fun hp σ hσ v hv => ?_⟩
      have hb : b = true := hp _ (List.mem_cons_self ..)
      subst hb
      simp only [den, denPtr, if_true] at hv ⊢
      rw [imEnv_name (hσ k _ a2) a3]; exact hv
  · rename_i k k'
    obtain ⟨a1, a2, a3, a4, a5⟩ := uName_ok h
    refine ⟨by simp, a1, a4, fun _ σ hσ v hv => ?_⟩
    simp only [den] at hv ⊢
    rw [imEnv_name (hσ k _ a2) a3]; exact hv
  · rename_i k
    obtain ⟨a1, a2, a3, a4, a5⟩ := uNil_ok h
    refine ⟨by simp, a1, a4, fun _ σ hσ v hv => ?_⟩
    simp only [den] at hv ⊢
    rw [imEnv_nil (hσ k _ a2) a3]; exact hv
  · cases h; exact ⟨by simp, ULe.refl _, fun g => g, fun _ _ _ v hv => hv⟩
  · rename_i f l f' l'
    cases hf : Nat.beq f f' with
    | false => rw [hf] at h; cases h
    | true =>
      have := Nat.eq_of_beq_eq_true hf
      subst this
      rw [hf, cond_true] at h
      have b := uNames_ok (ρ := ρ) h
      refine ⟨by simp, b.le, b.good, fun hp σ hσ v hv => ?_⟩
      simp only [den, Option.map_eq_some_iff] at hv ⊢
      obtain ⟨vs, h1, h2⟩ := hv
      exact ⟨vs, b.den hp σ hσ vs h1, h2⟩
  · exact ⟨by simp, one _ h fun e σ v hv => by rw [← hv]; simp [den, e]⟩
  · exact ⟨by simp, one _ h fun e σ v hv => by rw [← hv]; simp [den, e]⟩
  · cases h
theorem UOk.seq {u u1 u2 : Un} {P Q R : Sg → Prop} (a : UOk u u1 P) (b : UOk u1 u2 Q) (h : ∀ σ, P σ → Q σ → R σ) : UOk u u2 R :=
  ⟨a.le.trans b.le, fun g => b.good (a.good g), fun hp σ hσ => h σ (a.den (fun q hq => hp q (b.le.p q hq)) σ fun k r hk => hσ k r (b.le.s k r hk)) (b.den hp σ hσ)⟩
theorem uL_ok {ρ : Env} : ∀ {l l' : List SC} {u u' : Un}, uL u l l' = some u' → UOk u u' fun σ => ∀ vs, denL ρ l' = some vs → denL (imEnv ρ σ) l = some vs := by
  intro l
  induction l with
  | nil =>
    intro l' u u' h
    cases l' with
    | nil => cases h; exact ⟨ULe.refl _, fun g => g, fun _ _ _ vs hv => hv⟩
    | cons => cases h
  | cons x l ih =>
    intro l' u u' h
    cases l' with
    | nil => cases h
    | cons y l' =>
      simp only [uL, Option.bind_eq_some_iff] at h
      obtain ⟨u1, h1, h2⟩ := h
      refine (uSC_ok (ρ := ρ) h1).2.seq (ih h2) fun σ p q vs hv => ?_
      obtain ⟨v, us, g1, g2, rfl⟩ := denL_cons_some.1 hv
      exact denL_cons_some.2 ⟨v, us, p v g1, q us g2, rfl⟩
theorem uC_ok {ρ : Env} {x y : Bool × List SC} {u u' : Un} (h : uC u x y = some u') : UOk u u' fun σ => ∀ v, denC ρ y = some v → denC (imEnv ρ σ) x = some v := by
  obtain ⟨b, l⟩ := x
  obtain ⟨b', l'⟩ := y
  unfold uC at h
  cases b <;> cases b' <;> simp only [reduceCtorEq] at h
  · have a := uL_ok (ρ := ρ) h
    refine ⟨a.le, a.good, fun hp σ hσ v hv => ?_⟩
    match l' with
    | [y] =>
      have := a.den hp σ hσ [v] (denL_cons_some.2 ⟨v, [], hv, rfl, rfl⟩)
      have hlen := denL_length this
      match l with
      | [x] =>
        obtain ⟨v', us, g1, g2, g3⟩ := denL_cons_some.1 this
        cases g3; exact g1
      | [] => simp at hlen
      | _ :: _ :: _ => simp at hlen
    | [] => simp [denC] at hv
    | _ :: _ :: _ => simp [denC] at hv
  · have a := uL_ok (ρ := ρ) h
    refine ⟨a.le, a.good, fun hp σ hσ v hv => ?_⟩
    simp only [denC, Option.map_eq_some_iff] at hv ⊢
    obtain ⟨vs, g1, g2⟩ := hv
    exact ⟨vs, a.den hp σ hσ vs g1, g2⟩
theorem uCs_ok {ρ : Env} : ∀ {l l' : List (Bool × List SC)} {u u' : Un}, uCs u l l' = some u' → UOk u u' fun σ => ∀ vs : List Value, l'.mapM (denC ρ) = some vs → l.mapM (denC (imEnv ρ σ)) = some vs := by
  intro l
  induction l with
  | nil =>
    intro l' u u' h
    cases l' with
    | nil => cases h; exact ⟨ULe.refl _, fun g => g, fun _ _ _ vs hv => hv⟩
    | cons => cases h
  | cons x l ih =>
    intro l' u u' h
    cases l' with
    | nil => cases h
    | cons y l' =>
      simp only [uCs, Option.bind_eq_some_iff] at h
      obtain ⟨u1, h1, h2⟩ := h
      refine (uC_ok (ρ := ρ) h1).seq (ih h2) fun σ p q vs hv => ?_
      rw [List.mapM_cons] at hv ⊢
      cases hy : denC ρ y with
      | none => simp [hy] at hv
      | some v =>
        rw [p v hy]
        rw [hy] at hv
        cases hl : l'.mapM (denC ρ) with
        | none => simp [hl] at hv
        | some us => simp [hl] at hv; simp [q us hl, hv]
theorem uSV_ok {ρ : Env} {x y : SV} {u u' : Un} (h : uSV u x y = some u') : y ≠ .one .und ∧ UOk u u' fun σ => ∀ v, denV ρ y = some v → denV (imEnv ρ σ) x = some v := by
  unfold uSV at h
  split at h
  · obtain ⟨h1, h2⟩ := uSC_ok (ρ := ρ) h
    exact ⟨by simpa using h1, h2⟩
  · have a := uL_ok (ρ := ρ) h
    refine ⟨by simp, a.le, a.good, fun hp σ hσ v hv => ?_⟩
    simp only [denV, Option.map_eq_some_iff] at hv ⊢
    obtain ⟨vs, g1, g2⟩ := hv
    exact ⟨vs, a.den hp σ hσ vs g1, g2⟩
  · have a := uCs_ok (ρ := ρ) h
    refine ⟨by simp, a.le, a.good, fun hp σ hσ v hv => ?_⟩
    simp only [denV, Option.map_eq_some_iff] at hv ⊢
    obtain ⟨vs, g1, g2⟩ := hv
    exact ⟨vs, a.den hp σ hσ vs g1, g2⟩
  · cases h
theorem uLs_ok {x y : Ls} {u u' : Un} (h : uLs u x y = some u') : UOk u u' fun _ => x = y := by
  have one : ∀ (q : Prop), some { u with ps := q :: u.ps } = some u' → (q → x = y) → UOk u u' fun _ => x = y := by
    intro q hq hz
    cases hq
    exact ⟨ULe.ps u q, fun g => g, fun hp σ _ => hz (hp q (List.mem_cons_self ..))⟩
  unfold uLs at h
  split at h <;> first
    | exact one _ h (fun e => by rw [e])
    | (cases h; done)
    | skip
  rename_i k l k' l'
  cases hk : decide (k = k') with
  | false => rw [hk] at h; cases h
  | true =>
    have := of_decide_eq_true hk
    subst this
    rw [hk, cond_true] at h
    exact one _ h (fun e => by rw [e])
theorem Ls.emptyOf_ok (l : Ls) : l.emptyOf.sz = l.sz ∧ l.emptyOf.len = 0 ∧ l.emptyOf.flat = [] := by cases l <;> exact ⟨rfl, rfl, rfl⟩
theorem Ls.isNil_len {l : Ls} (h : l.isNil) : l.len = 0 ∧ l.flat = [] := by cases l <;> (simp only [Ls.isNil] at h; subst h; exact ⟨rfl, rfl⟩)
theorem read_of_row {C : Ctx} {ρ ρ' : Env} {w : World} {v : Value} {ty : TypeId} {l : Ls} (h : SBok C ρ w v (.row ty l)) : SBok C ρ' w v (.read l) := by
  obtain ⟨h1, h2⟩ := h
  rcases h1.2 with ⟨g1, g2⟩ | ⟨g, cap, cur, fz, g1, _, g3, _, g4, g5, _⟩
  · exact ⟨none, 0, by rw [g2]; exact g1, by omega, by omega, fun hp => by omega⟩
  · refine ⟨_, cap, g1, g4, Nat.le_trans g4 g5, fun hp => ⟨g, 0, rfl, ?_, .inl (h2 g (by rw [g1]; rfl))⟩⟩
    obtain ⟨b, cap', q1, _, _, q2⟩ := row_cells h1 hp
    rw [g1] at q1; cases q1
    exact q2
theorem AllR_iff : ∀ (l : List Prop) (q : Prop), AllR l q → q ∧ ∀ p ∈ l, p := by
  intro l
  induction l with
  | nil => intro q h; exact ⟨h, fun p hp => by cases hp⟩
  | cons p l ih =>
    intro q h
    obtain ⟨⟨h1, h2⟩, h3⟩ := ih _ h
    exact ⟨h2, fun r hr => by rcases List.mem_cons.1 hr with rfl | hr; exact h1; exact h3 r hr⟩
theorem ofRev_all {l : List Prop} (h : ofRev l) : ∀ p ∈ l, p := by
  cases l with
  | nil => intro p hp; cases hp
  | cons q l =>
    obtain ⟨h1, h2⟩ := AllR_iff l q h
    intro p hp
    rcases List.mem_cons.1 hp with rfl | hp
    · exact h1
    · exact h2 p hp
theorem uName_ps {u u' : Un} {k k' : Nat} (h : uName u k k' = some u') : u'.ps = u.ps := by
  unfold uName at h
  cases hb : Nat.blt k 16 && !Nat.beq k k' with
  | true => rw [hb] at h; cases h
  | false =>
    rw [hb, cond_false] at h
    split at h
    · rename_i j _
      cases hj : Nat.beq j k' with
      | true => rw [hj] at h; cases h; rfl
      | false => rw [hj] at h; cases h
    · cases h
    · cases hu : usedBy k' u.σ with
      | true => rw [hu] at h; cases h
      | false => rw [hu] at h; cases h; rfl
theorem uNil_ps {u u' : Un} {k : Nat} (h : uNil u k = some u') : u'.ps = u.ps := by
  unfold uNil at h
  cases hb : Nat.blt k 16 with
  | true => rw [hb] at h; cases h
  | false =>
    rw [hb, cond_false] at h
    split at h <;> cases h <;> rfl
theorem uNames_ps : ∀ {l l' : List (Nat × Nat)} {u u' : Un}, uNames u l l' = some u' → u'.ps = u.ps := by
  intro l
  induction l with
  | nil =>
    intro l' u u' h
    cases l' with
    | nil => cases h; rfl
    | cons => cases h
  | cons x l ih =>
    intro l' u u' h
    cases l' with
    | nil => cases h
    | cons y l' =>
      obtain ⟨k, f⟩ := x
      obtain ⟨k', f'⟩ := y
      simp only [uNames] at h
      cases hf : Nat.beq f f' with
      | false => rw [hf] at h; cases h
      | true =>
        rw [hf, cond_true, Option.bind_eq_some_iff] at h
        obtain ⟨u1, h1, h2⟩ := h
        exact (ih h2).trans (uName_ps h1)
theorem uSC_ps {x y : SC} {u u' : Un} (h : uSC u x y = some u') : u'.ps = psSC x y u.ps := by
  unfold uSC at h
  unfold psSC
  split at h
  · rename_i k n k' n'
    cases hk : decide (k = k') with
    | false => rw [hk] at h; cases h
    | true => rw [hk, cond_true] at h; cases h; rfl
  · rename_i b
    rw [Option.map_eq_some_iff] at h
    obtain ⟨c, hc, h⟩ := h
    cases h
    simp only [hc]
  · split at h
    · cases h; rfl
    · rename_i hy
      rw [Option.map_eq_some_iff] at h
      obtain ⟨c, hc, h⟩ := h
      cases h
      simp only [hc]
  · split at h
    · cases h; rfl
    · rename_i hy
      rw [Option.map_eq_some_iff] at h
      obtain ⟨c, hc, h⟩ := h
      cases h
      simp only [hc]
  · cases h; rfl
  · rename_i k f k' f'
    cases hf : Nat.beq f f' with
    | false => rw [hf] at h; cases h
    | true => rw [hf, cond_true] at h; exact uName_ps h
  · rw [Option.map_eq_some_iff] at h
    obtain ⟨u1, h1, h⟩ := h
    cases h
    simp only [uName_ps h1]
  · split at h
    · cases h; rfl
    · cases h
  · rename_i k b k' f'
    cases hf : Nat.beq f' 0 with
    | false => rw [hf] at h; cases h
    | true =>
      rw [hf, cond_true, Option.map_eq_some_iff] at h
      obtain ⟨u1, h1, h⟩ := h
      cases h
      simp only [uName_ps h1]
  · exact uName_ps h
  · exact uNil_ps h
  · cases h; rfl
  · rename_i f l f' l'
    cases hf : Nat.beq f f' with
    | false => rw [hf] at h; cases h
    | true => rw [hf, cond_true] at h; exact uNames_ps h
  · cases h; rfl
  · cases h; rfl
  · cases h
theorem uL_ps : ∀ {l l' : List SC} {u u' : Un}, uL u l l' = some u' → u'.ps = psL l l' u.ps := by
  intro l
  induction l with
  | nil =>
    intro l' u u' h
    cases l' with
    | nil => cases h; rfl
    | cons => cases h
  | cons x l ih =>
    intro l' u u' h
    cases l' with
    | nil => cases h
    | cons y l' =>
      simp only [uL, Option.bind_eq_some_iff] at h
      obtain ⟨u1, h1, h2⟩ := h
      rw [ih h2, uSC_ps h1]; rfl
theorem addE_ok {u u' : Un} {cs cs' : List SC} {P : Sg → Prop} (hP : ∀ {u1}, uL ⟨u.σ, []⟩ cs cs' = some u1 → UOk ⟨u.σ, []⟩ u1 P) (h : (uL ⟨u.σ, []⟩ cs cs').map (addE u cs cs') = some u') : UOk u u' P := by
  rw [Option.map_eq_some_iff] at h
  obtain ⟨u1, h1, rfl⟩ := h
  have a := hP h1
  have hp : u1.ps = psL cs cs' [] := uL_ps h1
  unfold addE
  split
  · refine ⟨⟨a.le.s, fun q hq => List.mem_cons_of_mem _ hq⟩, a.good, fun hps σ hσ => a.den (fun q hq => ?_) σ hσ⟩
    rw [hp] at hq
    exact ofRev_all (hps _ (List.mem_cons_self ..)) q hq
  · exact ⟨⟨a.le.s, fun q hq => List.mem_append_right _ hq⟩, a.good, fun hps σ hσ => a.den (fun q hq => hps q (List.mem_append_left _ hq)) σ hσ⟩
theorem uSB_ok {C : Ctx} {ρ : Env} {x y : SB} {u u' : Un} (h : uSB u x y = some u') : UOk u u' fun σ => ∀ w v, SBok C ρ w v y → SBok C (imEnv ρ σ) w v x ∧ (x.mut = true → y.mut = true ∧ foot v x = foot v y) ∧ ∀ g, foot v x = some g → foot v y = some g := by
  unfold uSB at h
  split at h
  · rename_i t cs t' cs'
    cases ht : Nat.beq t t' with
    | false => rw [ht] at h; cases h
    | true =>
      have := Nat.eq_of_beq_eq_true ht
      subst this
      rw [ht, cond_true] at h
      have a := addE_ok (fun h1 => uL_ok (ρ := ρ) h1) h
      refine ⟨a.le, a.good, fun hp σ hσ w v hv => ?_⟩
      obtain ⟨b, vs, g1, g2, g3, g4⟩ := hv
      exact ⟨⟨b, vs, g1, a.den hp σ hσ vs g2, g3, g4⟩, fun _ => ⟨rfl, rfl⟩, fun _ hg => hg⟩
  · rename_i t cs t' cs'
    cases ht : Nat.beq t t' with
    | false => rw [ht] at h; cases h
    | true =>
      have := Nat.eq_of_beq_eq_true ht
      subst this
      rw [ht, cond_true] at h
      have a := uL_ok (ρ := ρ) h
      refine ⟨a.le, a.good, fun hp σ hσ w v hv => ?_⟩
      obtain ⟨b, vs, g1, g2, g3, g4⟩ := hv
      exact ⟨⟨b, vs, g1, a.den hp σ hσ vs g2, g3, g4⟩, (fun hm => by cases hm), fun _ hg => hg⟩
  · rename_i t l t' l'
    cases ht : Nat.beq t t' with
    | false => rw [ht] at h; cases h
    | true =>
      have := Nat.eq_of_beq_eq_true ht
      subst this
      rw [ht, cond_true] at h
      have a := uLs_ok h
      refine ⟨a.le, a.good, fun hp σ hσ w v hv => ?_⟩
      have e := a.den hp σ hσ
      subst e
      exact ⟨hv, fun _ => ⟨rfl, rfl⟩, fun _ hg => hg⟩
  · have a := uLs_ok h
    refine ⟨a.le, a.good, fun hp σ hσ w v hv => ?_⟩
    have e := a.den hp σ hσ
    subst e
    exact ⟨hv, (fun hm => by cases hm), fun _ hg => hg⟩
  · have a := uLs_ok h
    refine ⟨a.le, a.good, fun hp σ hσ w v hv => ?_⟩
    have e := a.den hp σ hσ
    subst e
    refine ⟨read_of_row hv, (fun hm => by cases hm), fun g hg => ?_⟩
    simp only [foot] at hg ⊢
    split at hg
    · cases hg
    · exact hg
  · rename_i l ty n cs
    cases hc : Nat.beq cs.length (n * l.sz) && Nat.ble n 1000000 with
    | false => rw [hc] at h; cases h
    | true =>
      rw [hc, cond_true, Option.bind_eq_some_iff] at h
      obtain ⟨l', h1, h2⟩ := h
      simp only [Bool.and_eq_true] at hc
      have c1 := Nat.eq_of_beq_eq_true hc.1
      have c2 := Nat.le_of_ble_eq_true hc.2
      have a := uLs_ok h2
      refine ⟨a.le, a.good, fun hp σ hσ w v hv => ?_⟩
      have e := a.den hp σ hσ
      subst e
      obtain ⟨b, vs, g1, g2, g3, g4⟩ := hv
      obtain ⟨e1, e2, e3⟩ := l.emptyOf_ok
      rw [← e1] at h1
      obtain ⟨us, q1, q2, q3, q4⟩ := snocs_ok ρ n cs l.emptyOf l h1 (by rw [e1]; omega)
      rw [e1, ← c1, List.take_length, g2] at q1
      cases q1
      rw [e3, List.nil_append] at q2
      rw [e2, Nat.zero_add] at q3
      refine ⟨⟨some ⟨b, 0, none⟩, n, by rw [q3]; exact g1, by omega, by rw [q3]; simp only [maxLen]; omega, fun _ => ⟨b, 0, rfl, fun j hj => ?_, .inl g4⟩⟩, (fun hm => by cases hm), fun g hg => ?_⟩
      · rw [q2, Nat.zero_add]
        simp [World.cell?, g3]
      · simp only [foot] at hg ⊢
        split at hg
        · cases hg
        · exact hg
  · rename_i s p s' p'
    cases h
    refine ⟨⟨fun _ _ hk => hk, fun q hq => List.mem_cons_of_mem _ (List.mem_cons_of_mem _ hq)⟩, fun g => g, fun hp σ hσ w v hv => ?_⟩
    have e1 : s' = s := hp _ (List.mem_cons_self ..)
    have e2 : p' = p := hp _ (List.mem_cons_of_mem _ (List.mem_cons_self ..))
    subst e1; subst e2
    exact ⟨hv, fun _ => ⟨rfl, rfl⟩, fun _ hg => hg⟩
  · rename_i t n cs t' n' cs'
    cases ht : Nat.beq t t' && Nat.beq n n' with
    | false => rw [ht] at h; cases h
    | true =>
      rw [ht, cond_true] at h
      simp only [Bool.and_eq_true] at ht
      have e1 := Nat.eq_of_beq_eq_true ht.1
      have e2 := Nat.eq_of_beq_eq_true ht.2
      subst e1; subst e2
      have a := uL_ok (ρ := ρ) h
      refine ⟨a.le, a.good, fun hp σ hσ w v hv => ?_⟩
      obtain ⟨b, vs, g1, g2, g3, g4⟩ := hv
      exact ⟨⟨b, vs, g1, a.den hp σ hσ vs g2, g3, g4⟩, fun _ => ⟨rfl, rfl⟩, fun _ hg => hg⟩
  · cases h
theorem uNilSB_ok {C : Ctx} {x : SB} {u u' : Un} (h : uNilSB u x = some u') : UOk u u' fun _ => ∀ ρ w, SBok C ρ w (.slice none 0 0) x ∧ foot (.slice none 0 0) x = none := by
  unfold uNilSB at h
  split at h
  · rename_i ty l
    cases h
    refine ⟨ULe.ps u _, fun g => g, fun hp σ _ ρ w => ?_⟩
    obtain ⟨h1, h2⟩ := Ls.isNil_len (hp _ (List.mem_cons_self ..))
    refine ⟨⟨?_, fun g hg => by cases hg⟩, rfl⟩
    rw [h1, h2]
    exact World.ownsRowF_nil w 0 ty l.sz
  · rename_i l
    cases h
    refine ⟨ULe.ps u _, fun g => g, fun hp σ _ ρ w => ?_⟩
    obtain ⟨h1, h2⟩ := Ls.isNil_len (hp _ (List.mem_cons_self ..))
    exact ⟨⟨none, 0, by rw [h1], by omega, by omega, fun hpos => by omega⟩, by simp [foot, h1]⟩
  · cases h
theorem uSlots_ok {ρ : Env} {S : AS} : ∀ {l : List (Nat × SV)} {u u' : Un}, uSlots S l u = some u' → UOk u u' fun σ => ∀ t x, (t, x) ∈ l → x ≠ .one .und → ∃ y, S.slot t = some y ∧ y ≠ .one .und ∧ ∀ v, denV ρ y = some v → denV (imEnv ρ σ) x = some v := by
  intro l
  induction l with
  | nil => intro u u' h; cases h; exact ⟨ULe.refl _, fun g => g, fun _ _ _ t x hx => by cases hx⟩
  | cons z l ih =>
    obtain ⟨t0, x0⟩ := z
    intro u u' h
    unfold uSlots at h
    split at h
    · have a := ih h
      refine ⟨a.le, a.good, fun hp σ hσ t x hx hne => ?_⟩
      rcases List.mem_cons.1 hx with e | hx
      · cases e; exact absurd rfl hne
      · exact a.den hp σ hσ t x hx hne
    · rename_i y _ hy
      rw [Option.bind_eq_some_iff] at h
      obtain ⟨u1, h1, h2⟩ := h
      obtain ⟨hne', a⟩ := uSV_ok (ρ := ρ) h1
      refine a.seq (ih h2) fun σ p q t x hx hne => ?_
      rcases List.mem_cons.1 hx with e | hx
      · cases e; exact ⟨y, hy, hne', p⟩
      · exact q t x hx hne
    · cases h
theorem uMem_ok {C : Ctx} {ρ : Env} {S : AS} : ∀ {l : List (Nat × Option SB)} {u u' : Un}, uMem S l u = some u' → UOk u u' fun σ => ∀ k x, (k, some x) ∈ l →
    (∃ k' y, look k σ = some (some k') ∧ S.blk k' = some y ∧ ∀ w v, SBok C ρ w v y → SBok C (imEnv ρ σ) w v x ∧ (x.mut = true → y.mut = true ∧ foot v x = foot v y) ∧ ∀ g, foot v x = some g → foot v y = some g) ∨
    (look k σ = some none ∧ ∀ ρ' w, SBok C ρ' w (.slice none 0 0) x ∧ foot (.slice none 0 0) x = none) := by
  intro l
  induction l with
  | nil => intro u u' h; cases h; exact ⟨ULe.refl _, fun g => g, fun _ _ _ t x hx => by cases hx⟩
  | cons z l ih =>
    obtain ⟨k0, x0⟩ := z
    intro u u' h
    unfold uMem at h
    split at h
    · rename_i heq; cases heq
    · rename_i heq; cases heq
      split at h
      · rename_i k' hl
        split at h
        · rename_i y hy
          rw [Option.bind_eq_some_iff] at h
          obtain ⟨u1, h1, h2⟩ := h
          have a := uSB_ok (C := C) (ρ := ρ) h1
          have b := ih h2
          refine ⟨a.le.trans b.le, fun g => b.good (a.good g), fun hp σ hσ k x hx => ?_⟩
          rcases List.mem_cons.1 hx with e | hx
          · cases e
            refine .inl ⟨k', y, hσ _ _ (b.le.s _ _ (a.le.s _ _ hl)), hy, a.den (fun q hq => hp q (b.le.p q hq)) σ fun i r hi => hσ i r (b.le.s i r hi)⟩
          · exact b.den hp σ hσ k x hx
        · cases h
      · rename_i hl
        rw [Option.bind_eq_some_iff] at h
        obtain ⟨u1, h1, h2⟩ := h
        have a := uNilSB_ok (C := C) h1
        have b := ih h2
        refine ⟨a.le.trans b.le, fun g => b.good (a.good g), fun hp σ hσ k x hx => ?_⟩
        rcases List.mem_cons.1 hx with e | hx
        · cases e
          exact .inr ⟨hσ _ _ (b.le.s _ _ (a.le.s _ _ hl)), a.den (fun q hq => hp q (b.le.p q hq)) σ fun i r hi => hσ i r (b.le.s i r hi)⟩
        · exact b.den hp σ hσ k x hx
      · cases h
    · cases h
theorem ltAll_look {n : Nat} : ∀ {σ : Sg}, ltAll n σ = true → ∀ k r, look k σ = some r → k < n := by
  intro σ
  induction σ with
  | nil => intro _ k r h; cases h
  | cons x σ ih =>
    obtain ⟨j, y⟩ := x
    intro h k r hk
    simp only [ltAll, Bool.and_eq_true] at h
    rw [look_cons] at hk
    split at hk
    · rename_i e; subst e; simpa [Nat.blt_eq] using h.1
    · exact ih h.2 k r hk
theorem blk_mem {S : AS} {k : Nat} {b : SB} (h : S.blk k = some b) : (k, some b) ∈ S.mem := by
  unfold AS.blk at h
  rw [Option.join_eq_some_iff] at h
  exact look_mem h
theorem Ent_sound {C : Ctx} {ρ : Env} {S I : AS} {a : Act} {w : World} (h : Sat C ρ S a w) (he : Ent S I) (h16 : 16 ≤ I.next) : ∃ ρ', Sat C ρ' I a w ∧ DomLt ρ' I.next := by
  unfold Ent at he
  split at he
  · rename_i u hu
    rw [Option.bind_eq_some_iff] at hu
    obtain ⟨u1, h1, h2⟩ := hu
    cases hl : ltAll I.next u.σ with
    | false => rw [hl] at he; exact he.elim
    | true =>
      rw [hl, cond_true] at he
      have hp : Ps u := ofRev_all he
      have a1 := uSlots_ok (ρ := ρ) h1
      have a2 := uMem_ok (C := C) (ρ := ρ) h2
      have hslots := a1.den (fun q hq => hp q (a2.le.p q hq)) u.σ a2.le.s
      have hmem := a2.den hp u.σ fun _ _ hk => hk
      have hgood : Good u.σ := a2.good (a1.good ⟨fun _ _ _ hk => (by cases hk), fun _ _ hk => (by cases hk)⟩)
      have him : ∀ k k', look k u.σ = some (some k') → imEnv ρ u.σ k = ρ k' := fun k k' hk => imEnv_name hk fun hk16 => by
        have := hgood.pin k _ hk hk16; cases this; rfl
      have hnil : ∀ k, look k u.σ = some none → imEnv ρ u.σ k = some (.slice none 0 0) := fun k hk => imEnv_nil hk fun hk16 => by
        have := hgood.pin k _ hk hk16; cases this
      refine ⟨imEnv ρ u.σ, ⟨h.frame, h.tsize, h.defers, ?_, ?_, ?_, ?_, ?_⟩, ?_⟩
      · intro k v hk
        unfold imEnv at hk
        split at hk
        · exact h.one k v hk
        · split at hk
          · exact h.one _ v hk
          · cases hk; rfl
          · cases hk
      · intro k hk
        unfold imEnv
        rw [if_pos hk]
        exact h.pin k hk
      · intro t x hx hne
        obtain ⟨y, g1, g2, g3⟩ := hslots t x (look_mem hx) hne
        obtain ⟨v, g4, g5⟩ := h.slots t y g1 g2
        exact ⟨v, g3 v g4, g5⟩
      · intro k b hb
        rcases hmem k b (blk_mem hb) with ⟨k', y, g1, g2, g3⟩ | ⟨g1, g2⟩
        · obtain ⟨v, g4, g5⟩ := h.mem k' y g2
          exact ⟨v, by rw [him k k' g1]; exact g4, (g3 w v g5).1⟩
        · exact ⟨_, hnil k g1, (g2 _ w).1⟩
      · intro k k2 b b2 v v2 hne hb hb2 hm hv hv2
        rcases hmem k b (blk_mem hb) with ⟨k', y, g1, g2, g3⟩ | ⟨g1, g2⟩
        · rcases hmem k2 b2 (blk_mem hb2) with ⟨k2', y2, q1, q2, q3⟩ | ⟨q1, q2⟩
          · rw [him k k' g1] at hv
            rw [him k2 k2' q1] at hv2
            obtain ⟨z, z1, z2⟩ := h.mem k' y g2
            rw [hv] at z1; cases z1
            obtain ⟨z', z1', z2'⟩ := h.mem k2' y2 q2
            rw [hv2] at z1'; cases z1'
            obtain ⟨_, m1, _⟩ := g3 w v z2
            obtain ⟨m2, m3⟩ := m1 hm
            obtain ⟨_, _, m4⟩ := q3 w v2 z2'
            have hkk : k' ≠ k2' := by
              rintro rfl
              exact hne (hgood.inj k k2 k' g1 q1)
            intro g hg hg2
            exact h.apart k' k2' y y2 v v2 hkk g2 q2 m2 hv hv2 g (m3 ▸ hg) (m4 g hg2)
          · rw [hnil k2 q1] at hv2; cases hv2
            intro g _ hg2
            rw [(q2 ρ w).2] at hg2; cases hg2
        · rw [hnil k g1] at hv; cases hv
          intro g hg _
          rw [(g2 ρ w).2] at hg; cases hg
      · intro k v hk
        unfold imEnv at hk
        split at hk
        · omega
        · split at hk
          · rename_i hlk; exact ltAll_look hl k _ hlk
          · rename_i hlk; exact ltAll_look hl k _ hlk
          · cases hk
  · exact he.elim
end Go.Proofs.YtglfkihckkjniaaGreatDoor.Vx
