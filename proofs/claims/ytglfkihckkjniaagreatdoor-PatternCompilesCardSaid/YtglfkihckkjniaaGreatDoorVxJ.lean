/-
VX, part J: regions in the order of the text; when one abstract state says no more than another. No statement of the seat is proved here.
-/
import Derived.Test.YtglfkihckkjniaaGreatDoorVxI
set_option linter.unusedVariables false
set_option linter.unusedSimpArgs false
namespace Go.Proofs.YtglfkihckkjniaaGreatDoor.Vx
open Go Go.RowKit

/-! ### one operation, and what must hold -/
def dstOK (nt : Nat) (o : Oper) : Bool := match o.dst with | some d => Nat.blt d nt | none => true
def step1 (tbl : Tbl) (hk : Hook) (fr : Nat) (o : Oper) (ev : Evl) (m : Mem) : Option Out :=
  match hk fr o ev m with
  | some x => some x
  | none => core tbl fr o ev m
/-- Obligations ahead of the rest, without noise. -/
def Needs : List Prop → Prop → Prop
  | [], q => q
  | p :: l, q => p ∧ Needs l q
theorem Needs_all {ps : List Prop} {q : Prop} (h : Needs ps q) : All ps ∧ q := by
  induction ps with
  | nil => exact ⟨trivial, h⟩
  | cons p l ih =>
    obtain ⟨h1, h2⟩ := h
    obtain ⟨h3, h4⟩ := ih h2
    refine ⟨?_, h4⟩
    cases l with
    | nil => exact h1
    | cons q l => exact ⟨h1, h3⟩
/-- Two ways: at a closed test just one of them. -/
def br (b : Bool) (P Q : Prop) : Prop := match b with | true => P | false => Q
theorem br_iff {b : Bool} {P Q : Prop} : br b P Q ↔ (b = true → P) ∧ (b = false → Q) := by cases b <;> simp [br]
theorem br_of {b : Bool} {P Q : Prop} (h : b = true → P) (k : b = false → Q) : br b P Q := br_iff.2 ⟨h, k⟩
def vcOp (tbl : Tbl) (hk : Hook) (nt fr : Nat) (o : Oper) (S : AS) (K : AS → Prop) : Prop :=
  bif dstOK nt o then
    match nextOf o S.ev S.blk with
    | some (b, e1, e2) => br b (K (S.upd o.dst e1)) (K (S.upd o.dst e2))
    | none =>
      match step1 tbl hk fr o S.ev S.blk with
      | some (ps, e) => Needs ps (K (S.upd o.dst e))
      | none => False
  else False
inductive Gd where
  | run
  | skip
  | part (b : Bool) (d : Nat) (want : Bool)
  | bad
def guardOf (all : List Oper) (S : AS) (o : Oper) : Gd :=
  match o.guard with
  | none => .run
  | some (j, want) =>
    match (all[j]?).bind (·.dst) with
    | some d =>
      match S.slot d with
      | some (.one .tt) => bif want then .run else .skip
      | some (.one .ff) => bif want then .skip else .run
      | some (.one (.bool b)) => .part b d want
      | some (.tup []) => .skip
      | _ => .bad
    | none => .bad
def bsv (b : Bool) : SV := bif b then .one .tt else .one .ff
def AS.know (S : AS) (d : Nat) (b : Bool) : AS := { S with slots := (d, bsv b) :: S.slots }
def vcOps (tbl : Tbl) (hk : Hook) (nt : Nat) (all : List Oper) : List Oper → Nat → AS → (AS → Prop) → Prop
  | [], _, S, K => K S
  | o :: l, fr, S, K =>
    match guardOf all S o with
    | .run => vcOp tbl hk nt fr o S fun S' => vcOps tbl hk nt all l (fr + 16) S' K
    | .skip => bif dstOK nt o then vcOps tbl hk nt all l (fr + 16) (S.put o.dst (.tup [])) K else False
    | .part b d want =>
      bif want then br b (vcOp tbl hk nt fr o (S.know d true) fun S' => vcOps tbl hk nt all l (fr + 16) S' K) (bif dstOK nt o then vcOps tbl hk nt all l (fr + 16) ((S.know d false).put o.dst (.tup [])) K else False)
      else br b (bif dstOK nt o then vcOps tbl hk nt all l (fr + 16) ((S.know d true).put o.dst (.tup [])) K else False) (vcOp tbl hk nt fr o (S.know d false) fun S' => vcOps tbl hk nt all l (fr + 16) S' K)
    | .bad => False

def DomLt (ρ : Env) (n : Nat) : Prop := ∀ k v, ρ k = some v → k < n
theorem DomLt.mono {ρ : Env} {n n' : Nat} (h : DomLt ρ n) (hn : n ≤ n') : DomLt ρ n' := fun k v hk => Nat.lt_of_lt_of_le (h k v hk) hn
section
variable {C : Ctx} {tbl : Tbl} {hk : Hook} {G : Ctx → Prop}
theorem Sat.skip {ρ : Env} {S : AS} {a : Act} {w : World} (h : Sat C ρ S a w) {o : Oper} (hd : dstOK C.nt o = true) : Sat C ρ (S.put o.dst (.tup [])) (a.put o.dst undef) w := by
  have := h.slot o.dst (.tup []) undef (fun d hd' => by unfold dstOK at hd; rw [hd'] at hd; simpa [Nat.blt_eq] using hd) (fun _ hne => rfl)
  have e : S.upd o.dst ⟨.tup [], []⟩ = S.put o.dst (.tup []) := by cases o.dst <;> rfl
  rw [e] at this
  exact this
theorem Sat.know {ρ : Env} {S : AS} {a : Act} {w : World} (h : Sat C ρ S a w) {d : Nat} {b : Bool} (hs : S.slot d = some (.one (.bool b))) : Sat C ρ (S.know d b) a w where
  frame := h.frame
  tsize := h.tsize
  defers := h.defers
  one := h.one
  pin := h.pin
  slots := by
    intro t x hx hne
    simp only [AS.know, AS.slot, look_cons] at hx
    split at hx
    · rename_i e
      subst e
      obtain ⟨v, h1, h2⟩ := h.slots d _ hs (by simp)
      simp only [denV, den, Option.some.injEq] at h1
      subst h1
      cases hx
      refine ⟨.bool b, ?_, h2⟩
      cases b <;> rfl
    · exact h.slots t x hx hne
  mem := h.mem
  apart := h.apart
theorem here_of {ρ : Env} {S : AS} {a : Act} {w : World} {fr : Nat} {o : Oper} (h : Sat C ρ S a w) (hT : tblOK C.P tbl) (hd : DomLt ρ fr) (h16 : 16 ≤ fr) (hdst : dstOK C.nt o = true) : Here C tbl ρ S a w fr o S.ev S.blk :=
  ⟨h, hT, fun _ _ hx => hx, fun _ _ hm => hm, fun k hk _ => by
    cases hr : ρ k with
    | none => rfl
    | some v => have := hd k v hr; omega, h16, fun d hd' => by unfold dstOK at hdst; rw [hd'] at hdst; simpa [Nat.blt_eq] using hdst⟩
theorem step1_sound (hH : HookOK tbl G hk) (hG : G C) {ρ : Env} {S : AS} {a : Act} {w : World} {fr : Nat} {o : Oper} {ev : Evl} {m : Mem} (H : Here C tbl ρ S a w fr o ev m) {ps : List Prop} {e : Eff}
    (hx : step1 tbl hk fr o ev m = some (ps, e)) (hp : All ps) : Does C ρ S a w fr o e := by
  unfold step1 at hx
  split at hx
  · rename_i x hc
    cases hx
    exact hH H hG hc hp
  · exact core_sound H hx hp
theorem vcOp_sound (hT : tblOK C.P tbl) (hH : HookOK tbl G hk) (hG : G C) {ρ : Env} {S : AS} {a : Act} {w : World} {fr : Nat} {o : Oper} (h : Sat C ρ S a w) (hd : DomLt ρ fr) (h16 : 16 ≤ fr) {K : AS → Prop} (hv : vcOp tbl hk C.nt fr o S K)
    (L : Act → World → Prop) (Q : Exit → Act → World → Prop) (hL : ∀ ρ' S' a' w', Sat C ρ' S' a' w' → DomLt ρ' (fr + 16) → K S' → L a' w') : o.wp C.P a w L Q := by
  unfold vcOp at hv
  cases hdst : dstOK C.nt o with
  | false => rw [hdst] at hv; exact hv.elim
  | true =>
    rw [hdst, cond_true] at hv
    have H := here_of h hT hd h16 hdst
    have hdom : ∀ ρ', Dom ρ ρ' fr → DomLt ρ' (fr + 16) := by
      intro ρ' hD k v hkv
      rcases hD k v hkv with ⟨u, hu⟩ | hr
      · have := hd k u hu; omega
      · exact hr.2
    split at hv
    · rename_i b e1 e2 hn
      refine nextOf_sound H hn L Q fun ρ' a' w' _ hD hs => ?_
      cases b with
      | true => exact hL ρ' _ a' w' hs (hdom ρ' hD) hv
      | false => exact hL ρ' _ a' w' hs (hdom ρ' hD) hv
    · split at hv
      · rename_i ps e hst
        obtain ⟨hp, hK⟩ := Needs_all hv
        exact step1_sound hH hG H hst hp L Q fun ρ' a' w' _ hD hs => hL ρ' _ a' w' hs (hdom ρ' hD) hK
      · exact hv.elim
theorem yields {ρ : Env} {S : AS} {a : Act} {w : World} (h : Sat C ρ S a w) {all : Array Oper} {j d : Nat} (hj : (all.toList[j]?).bind (·.dst) = some d) {x : SC} (hs : S.slot d = some (.one x)) {b : Bool} (hb : boolOf x = some b) : yielded all a.tmps j = some b := by
  obtain ⟨v, h1, h2⟩ := h.slots d _ hs (by rintro ⟨⟩; cases hb)
  rw [show denV ρ (.one x) = den ρ x from rfl, boolOf_den hb ρ] at h1
  cases h1
  unfold yielded
  rw [Array.getElem?_toList] at hj
  rw [hj]
  simp [h2]
theorem yields_none {ρ : Env} {S : AS} {a : Act} {w : World} (h : Sat C ρ S a w) {all : Array Oper} {j d : Nat} (hj : (all.toList[j]?).bind (·.dst) = some d) (hs : S.slot d = some (.tup [])) : yielded all a.tmps j = none := by
  obtain ⟨v, h1, h2⟩ := h.slots d _ hs (by rintro ⟨⟩)
  cases h1
  unfold yielded
  rw [Array.getElem?_toList] at hj
  rw [hj]
  simp [h2]
theorem vcOps_sound (hT : tblOK C.P tbl) (hH : HookOK tbl G hk) (hG : G C) (ops : Array Oper) (Q : Exit → Act → World → Prop) (K : AS → Prop) : ∀ (l : List Oper) (i fr : Nat) (ρ : Env) (S : AS) (a : Act) (w : World),
    ops.toList.drop i = l → Sat C ρ S a w → DomLt ρ fr → 16 ≤ fr → vcOps tbl hk C.nt ops.toList l fr S K →
    (∀ ρ' S' a' w', Sat C ρ' S' a' w' → DomLt ρ' (fr + 16 * l.length) → K S' → Q .normal a' w') → wpOps C.P ops Q (List.range' i l.length) a w := by
  intro l
  induction l with
  | nil =>
    intro i fr ρ S a w _ h hd h16 hv hQ
    exact hQ ρ S a w h (by simpa using hd) hv
  | cons o l ih =>
    intro i fr ρ S a w hi h hd h16 hv hQ
    have ho : ops[i]? = some o := by
      have := congrArg (fun l : List Oper => l[0]?) hi
      simpa using this
    have hi' : ops.toList.drop (i + 1) = l := by
      have := congrArg List.tail hi
      simpa using this
    have hQ' : ∀ ρ' S' a' w', Sat C ρ' S' a' w' → DomLt ρ' (fr + 16 + 16 * l.length) → K S' → Q .normal a' w' := by
      intro ρ' S' a' w' h1 h2 h3
      refine hQ ρ' S' a' w' h1 (h2.mono ?_) h3
      simp only [List.length_cons]
      omega
    have runs : ∀ (S1 : AS), Sat C ρ S1 a w → (vcOp tbl hk C.nt fr o S1 fun S' => vcOps tbl hk C.nt ops.toList l (fr + 16) S' K) → o.wp C.P a w (wpOps C.P ops Q (List.range' (i + 1) l.length)) Q := by
      intro S1 h1 hv1
      exact vcOp_sound hT hH hG h1 hd h16 hv1 _ Q fun ρ' S' a' w' g1 g2 g3 => ih (i + 1) (fr + 16) ρ' S' a' w' hi' g1 g2 (by omega) g3 hQ'
    have skips : ∀ (S1 : AS), Sat C ρ S1 a w → (bif dstOK C.nt o then vcOps tbl hk C.nt ops.toList l (fr + 16) (S1.put o.dst (.tup [])) K else False) → wpOps C.P ops Q (List.range' (i + 1) l.length) (a.put o.dst undef) w := by
      intro S1 h1 hv1
      cases hdst : dstOK C.nt o with
      | false => rw [hdst] at hv1; exact hv1.elim
      | true =>
        rw [hdst, cond_true] at hv1
        exact ih (i + 1) (fr + 16) ρ _ _ w hi' (h1.skip hdst) (hd.mono (by omega)) (by omega) hv1 hQ'
    rw [List.length_cons, List.range'_succ]
    simp only [wpOps, ho]
    unfold vcOps at hv
    have hwant : ∀ {j : Nat} {want : Bool}, o.guard = some (j, want) → ∀ b, yielded ops a.tmps j = some b → Region.wanted o (yielded ops a.tmps) = (b == want) := by
      intro j want hgd b hy
      unfold Region.wanted
      rw [hgd]
      simp only [hy]
      cases b <;> cases want <;> rfl
    split at hv
    · rename_i hgd
      have hwt : Region.wanted o (yielded ops a.tmps) = true := by
        unfold guardOf at hgd
        split at hgd
        · rename_i hg; unfold Region.wanted; rw [hg]
        · rename_i j want hg
          split at hgd
          · rename_i d hj
            split at hgd
            · rename_i hs
              cases want with
              | true => rw [hwant hg true (yields h hj hs rfl)]; rfl
              | false => cases hgd
            · rename_i hs
              cases want with
              | true => cases hgd
              | false => rw [hwant hg false (yields h hj hs rfl)]; rfl
            · cases hgd
            · cases hgd
            · cases hgd
          · cases hgd
      rw [if_pos hwt]
      exact .inl (runs S h hv)
    · rename_i hgd
      have hwt : Region.wanted o (yielded ops a.tmps) = false := by
        unfold guardOf at hgd
        split at hgd
        · cases hgd
        · rename_i j want hg
          split at hgd
          · rename_i d hj
            split at hgd
            · rename_i hs
              cases want with
              | true => cases hgd
              | false => rw [hwant hg true (yields h hj hs rfl)]; rfl
            · rename_i hs
              cases want with
              | true => rw [hwant hg false (yields h hj hs rfl)]; rfl
              | false => cases hgd
            · cases hgd
            · rename_i hs
              unfold Region.wanted
              rw [hg]
              simp only [yields_none h hj hs]
              cases want <;> rfl
            · cases hgd
          · cases hgd
      rw [if_neg (by rw [hwt]; simp)]
      exact skips S h hv
    · rename_i b d want hgd
      have hsl : ∃ j, o.guard = some (j, want) ∧ (ops.toList[j]?).bind (·.dst) = some d ∧ S.slot d = some (.one (.bool b)) := by
        unfold guardOf at hgd
        split at hgd
        · cases hgd
        · rename_i j want' hg
          split at hgd
          · rename_i d' hj
            split at hgd
            · cases want' <;> cases hgd
            · cases want' <;> cases hgd
            · rename_i hs; cases hgd; exact ⟨j, hg, hj, hs⟩
            · cases hgd
            · cases hgd
          · cases hgd
      obtain ⟨j, hg, hj, hs⟩ := hsl
      have hy := yields h hj hs (show boolOf (.bool b) = some b from rfl)
      by_cases hbw : b = want
      · have hwt : Region.wanted o (yielded ops a.tmps) = true := by rw [hwant hg b hy]; simp [hbw]
        rw [if_pos hwt]
        subst hbw
        refine .inl (runs _ (h.know hs) ?_)
        cases b with
        | true => exact hv
        | false => exact hv
      · have hbn : b = !want := by cases b <;> cases want <;> simp_all
        have hwt : Region.wanted o (yielded ops a.tmps) = false := by rw [hwant hg b hy]; simp [hbw]
        rw [if_neg (by rw [hwt]; simp)]
        refine skips _ (h.know hs) ?_
        cases b with
        | true => cases want with
          | true => cases hbn
          | false => exact hv
        | false => cases want with
          | true => exact hv
          | false => cases hbn
    · exact hv.elim
theorem vc_region_text (hT : tblOK C.P tbl) (hH : HookOK tbl G hk) (hG : G C) {id : Nat} {ops : Array Oper} {ρ : Env} {S : AS} {a : Act} {w : World} (h : Sat C ρ S a w) (hd : DomLt ρ S.next) (h16 : 16 ≤ S.next) {K : AS → Prop}
    (hv : vcOps tbl hk C.nt ops.toList ops.toList S.next S K) {Q : Exit → Act → World → Prop}
    (hQ : ∀ ρ' S' a' w', Sat C ρ' S' a' w' → DomLt ρ' (S.next + 16 * ops.size) → K S' → Q .normal a' w') : (Code.region id ops false).wp C.P Q a w := by
  refine wp_region ?_
  have := vcOps_sound hT hH hG ops Q K ops.toList 0 S.next ρ S a w rfl h hd h16 hv (by simpa using hQ)
  rw [Array.length_toList] at this
  rwa [List.range_eq_range']
end

/-! ### one abstract state says no more than another -/
structure Un where
  σ : List (Nat × Option Nat)
  ps : List Prop
def usedBy (k' : Nat) : List (Nat × Option Nat) → Bool
  | [] => false
  | (_, some j) :: l => Nat.beq j k' || usedBy k' l
  | (_, none) :: l => usedBy k' l
def uName (u : Un) (k : Nat) (k' : Nat) : Option Un :=
  bif Nat.blt k 16 && !Nat.beq k k' then none else
  match look k u.σ with
  | some (some j) => bif Nat.beq j k' then some u else none
  | some none => none
  | none => bif usedBy k' u.σ then none else some { u with σ := (k, some k') :: u.σ }
def uNil (u : Un) (k : Nat) : Option Un :=
  bif Nat.blt k 16 then none else
  match look k u.σ with
  | some none => some u
  | some (some _) => none
  | none => some { u with σ := (k, none) :: u.σ }
def uNames (u : Un) : List (Nat × Nat) → List (Nat × Nat) → Option Un
  | [], [] => some u
  | (k, f) :: l, (k', f') :: l' => bif Nat.beq f f' then (uName u k k').bind fun u => uNames u l l' else none
  | _, _ => none
/-- x: of the state that says less. -/
def uSC (u : Un) (x y : SC) : Option Un :=
  match x, y with
  | .int k n, .int k' n' => bif decide (k = k') then some { u with ps := (n' = n) :: u.ps } else none
  | .bool b, y => (boolOf y).map fun c => { u with ps := (c = b) :: u.ps }
  | .tt, y => match y with | .tt => some u | _ => (boolOf y).map fun c => { u with ps := (c = true) :: u.ps }
  | .ff, y => match y with | .ff => some u | _ => (boolOf y).map fun c => { u with ps := (c = false) :: u.ps }
  | .str s, .str s' => some { u with ps := (s' = s) :: u.ps }
  | .ptr k f, .ptr k' f' => bif Nat.beq f f' then uName u k k' else none
  | .mp k b, .mp k' b' => (uName u k k').map fun u => { u with ps := (b' = b) :: u.ps }
  | .mp k b, .raw v => match v with | .pointer none => some { u with ps := (b = false) :: u.ps } | _ => none
  | .mp k b, .ptr k' f' => bif Nat.beq f' 0 then (uName u k k').map fun u => { u with ps := (b = true) :: u.ps } else none
  | .slc k, .slc k' => uName u k k'
  | .slc k, .nils => uNil u k
  | .nils, .nils => some u
  | .fn f l, .fn f' l' => bif Nat.beq f f' then uNames u l l' else none
  | .iv a, .iv b => some { u with ps := (b = a) :: u.ps }
  | .raw v, .raw v' => some { u with ps := (v' = v) :: u.ps }
  | _, _ => none
def uL (u : Un) : List SC → List SC → Option Un
  | [], [] => some u
  | x :: l, y :: l' => (uSC u x y).bind fun u => uL u l l'
  | _, _ => none
def uC (u : Un) (x y : Bool × List SC) : Option Un :=
  match x.1, y.1 with
  | true, true => uL u x.2 y.2
  | false, false => uL u x.2 y.2
  | _, _ => none
def uCs (u : Un) : List (Bool × List SC) → List (Bool × List SC) → Option Un
  | [], [] => some u
  | x :: l, y :: l' => (uC u x y).bind fun u => uCs u l l'
  | _, _ => none
def uSV (u : Un) (x y : SV) : Option Un :=
  match x, y with
  | .one a, .one b => uSC u a b
  | .agg a, .agg b => uL u a b
  | .tup a, .tup b => uCs u a b
  | _, _ => none
def uLs (u : Un) (x y : Ls) : Option Un :=
  match x, y with
  | .toks l, .toks l' => some { u with ps := (l' = l) :: u.ps }
  | .items l, .items l' => some { u with ps := (l' = l) :: u.ps }
  | .ivs l, .ivs l' => some { u with ps := (l' = l) :: u.ps }
  | .ints k l, .ints k' l' => bif decide (k = k') then some { u with ps := (l' = l) :: u.ps } else none
  | .strs l, .strs l' => some { u with ps := (l' = l) :: u.ps }
  | .spots l, .spots l' => some { u with ps := (l' = l) :: u.ps }
  | .elms l, .elms l' => some { u with ps := (l' = l) :: u.ps }
  | _, _ => none
def Ls.isNil : Ls → Prop
  | .toks l => l = []
  | .items l => l = []
  | .ivs l => l = []
  | .ints _ l => l = []
  | .strs l => l = []
  | .spots l => l = []
  | .elms l => l = []
def Ls.emptyOf : Ls → Ls
  | .toks _ => .toks []
  | .items _ => .items []
  | .ivs _ => .ivs []
  | .ints k _ => .ints k []
  | .strs _ => .strs []
  | .spots _ => .spots []
  | .elms _ => .elms []
def AllR : List Prop → Prop → Prop
  | [], q => q
  | p :: l, q => AllR l (p ∧ q)
def ofRev : List Prop → Prop
  | [] => True
  | p :: l => AllR l p
/-- What must hold where two cells stand for one another. -/
def psSC (x y : SC) (ps : List Prop) : List Prop :=
  match x, y with
  | .int _ n, .int _ n' => (n' = n) :: ps
  | .bool b, y => match boolOf y with | some c => (c = b) :: ps | none => ps
  | .tt, y => match y with | .tt => ps | y => match boolOf y with | some c => (c = true) :: ps | none => ps
  | .ff, y => match y with | .ff => ps | y => match boolOf y with | some c => (c = false) :: ps | none => ps
  | .str s, .str s' => (s' = s) :: ps
  | .mp _ b, .mp _ b' => (b' = b) :: ps
  | .mp _ b, .raw _ => (b = false) :: ps
  | .mp _ b, .ptr _ _ => (b = true) :: ps
  | .iv a, .iv b => (b = a) :: ps
  | .raw v, .raw v' => (v' = v) :: ps
  | _, _ => ps
def psL : List SC → List SC → List Prop → List Prop
  | x :: l, y :: l', ps => psL l l' (psSC x y ps)
  | _, _, ps => ps
/-- Two blocks hold the same. -/
def EqL (cs cs' : List SC) : Prop := ofRev (psL cs cs' [])
def addE (u : Un) (cs cs' : List SC) (u1 : Un) : Un :=
  match u1.ps with
  | _ :: _ :: _ :: _ :: _ => ⟨u1.σ, EqL cs cs' :: u.ps⟩
  | ps => ⟨u1.σ, ps ++ u.ps⟩
def uSB (u : Un) (x y : SB) : Option Un :=
  match x, y with
  | .cells t cs, .cells t' cs' => bif Nat.beq t t' then (uL ⟨u.σ, []⟩ cs cs').map (addE u cs cs') else none
  | .ro t cs, .ro t' cs' => bif Nat.beq t t' then uL u cs cs' else none
  | .row t l, .row t' l' => bif Nat.beq t t' then uLs u l l' else none
  | .read l, .read l' => uLs u l l'
  | .read l, .row _ l' => uLs u l l'
  | .read l, .lit _ n cs => bif Nat.beq cs.length (n * l.sz) && Nat.ble n 1000000 then (snocs l.sz n cs l.emptyOf).bind fun l' => uLs u l l' else none
  | .iter s p, .iter s' p' => some { u with ps := (s' = s) :: (p' = p) :: u.ps }
  | .lit t n cs, .lit t' n' cs' => bif Nat.beq t t' && Nat.beq n n' then uL u cs cs' else none
  | _, _ => none
def uNilSB (u : Un) (x : SB) : Option Un :=
  match x with
  | .row _ l => some { u with ps := l.isNil :: u.ps }
  | .read l => some { u with ps := l.isNil :: u.ps }
  | _ => none
def uSlots (S : AS) : List (Nat × SV) → Un → Option Un
  | [], u => some u
  | (t, x) :: l, u =>
    match x, S.slot t with
    | .one .und, _ => uSlots S l u
    | x, some y => (uSV u x y).bind (uSlots S l)
    | _, none => none
def uMem (S : AS) : List (Nat × Option SB) → Un → Option Un
  | [], u => some u
  | (k, some x) :: l, u =>
    match look k u.σ with
    | some (some k') => match S.blk k' with | some y => (uSB u x y).bind (uMem S l) | none => none
    | some none => (uNilSB u x).bind (uMem S l)
    | none => none
  | (_, none) :: _, _ => none
def ltAll (n : Nat) : List (Nat × Option Nat) → Bool
  | [] => true
  | (k, _) :: l => Nat.blt k n && ltAll n l
/-- S says all that I says. -/
def Ent (S I : AS) : Prop :=
  match (uSlots S I.slots ⟨[], []⟩).bind (uMem S I.mem) with
  | some u => bif ltAll I.next u.σ then ofRev u.ps else False
  | none => False
end Go.Proofs.YtglfkihckkjniaaGreatDoor.Vx
