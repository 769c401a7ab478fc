/-
VX, part N: regions whose order is open: what must hold of them. No statement of the seat is proved here.
-/
import Derived.Test.YtglfkihckkjniaaGreatDoorVxM
set_option linter.unusedVariables false
set_option linter.unusedSimpArgs false
namespace Go.Proofs.YtglfkihckkjniaaGreatDoor.Vx
open Go Go.RowKit

/-! ### the names that an operation may look at -/
def namesSC : SC → List Nat
  | .ptr k _ => [k]
  | .slc k => [k]
  | .ept k _ _ _ => [k]
  | .mp k _ => [k]
  | .fn _ l => l.map (·.1)
  | _ => []
def namesL : List SC → List Nat
  | [] => []
  | x :: l => namesSC x ++ namesL l
def namesSV : SV → List Nat
  | .one x => namesSC x
  | .agg l => namesL l
  | .tup l => namesL (l.flatMap (·.2))
def namesSB : SB → List Nat
  | .cells _ cs => namesL cs
  | .lit _ _ cs => namesL cs
  | .ro _ cs => namesL cs
  | _ => []
def widen (S : AS) : List Nat → List Nat → List Nat
  | acc, [] => acc
  | acc, k :: l => widen S (bif elemN k acc then acc else k :: acc) l
def under (S : AS) : List Nat → List Nat
  | [] => []
  | k :: l => (match S.blk k with | some b => namesSB b | none => []) ++ under S l
def namesOps (S : AS) : List Operand → List Nat
  | [] => []
  | x :: l => (match S.ev x with | some v => namesSV v | none => []) ++ namesOps S l
def reachAll (S : AS) (o : Oper) : List Nat :=
  let a := widen S [] (namesOps S o.op.operands.toList)
  let b := widen S a (under S a)
  widen S b (under S b)
def reach (S : AS) (o : Oper) : List Nat :=
  match o.op with
  | .move _ => []
  | .assign _ => []
  | .nilCheck _ => []
  | .fieldAddr _ _ _ => []
  | .load _ x => namesOps S [x]
  | .store _ x _ => namesOps S [x]
  | _ => reachAll S o
def evR (S : AS) (ds : List Nat) : Evl := fun x =>
  match x with
  | .tmp t => bif elemN t ds then S.ev (.tmp t) else none
  | x => S.ev x
def mR (S : AS) (rd : List Nat) : Mem := fun k => bif elemN k rd then S.blk k else none
def isGuard (i : Nat) : List Oper → Bool
  | [] => false
  | o :: l => (match o.guard with | some (j, _) => Nat.beq j i | none => false) || isGuard i l
def Eff.with (e : Eff) (x : SV) : Eff := { e with dst := x }
def vcD (tbl : Tbl) (hk : Hook) (nt : Nat) (all : List Oper) : List Oper → Nat → Nat → List Tr → AS → (List Tr → AS → Prop) → Prop
  | [], _, _, done, S, K => K done S
  | o :: l, i, fr, done, S, K =>
    bif dstOK nt o then
      match guardOf all S o with
      | .run =>
        match step1 tbl hk fr o (evR S (tmpsOf o.op.operands.toList)) (mR S (reach S o)) with
        | some (ps, e) => Needs ps <|
          match e.dst, isGuard i all with
          | .one (.bool b), true =>
            br b (vcD tbl hk nt all l (i + 1) (fr + 16) (done ++ [⟨o, reach S o, some (e.with (.one .tt))⟩]) (S.upd o.dst (e.with (.one .tt))) K)
            (vcD tbl hk nt all l (i + 1) (fr + 16) (done ++ [⟨o, reach S o, some (e.with (.one .ff))⟩]) (S.upd o.dst (e.with (.one .ff))) K)
          | _, _ => vcD tbl hk nt all l (i + 1) (fr + 16) (done ++ [⟨o, reach S o, some e⟩]) (S.upd o.dst e) K
        | none => False
      | .skip => vcD tbl hk nt all l (i + 1) (fr + 16) (done ++ [⟨o, [], none⟩]) (S.put o.dst (.tup [])) K
      | _ => False
    else False
def vcDraw (tbl : Tbl) (hk : Hook) (nt : Nat) (all : List Oper) (S : AS) (K : AS → Prop) : Prop :=
  bif backOK all 0 then
    vcD tbl hk nt all all 0 S.next [] S fun T S' => bif indep all (masks all []) [] 0 T then K S' else False
  else False

/-! ### one way through it -/
def Alike (e e' : Eff) : Prop := e' = e ∨ ∃ b, e'.dst = .one (.bool b) ∧ e = e'.with (bsv b)
structure Ran (tbl : Tbl) (hk : Hook) (nt : Nat) (all : List Oper) (i fr : Nat) (t : Tr) (S : AS) : Prop where
  dst : dstOK nt t.o = true
  how : (t.res = none ∧ t.rd = [] ∧ guardOf all S t.o = .skip) ∨
    ∃ e ps e', t.res = some e ∧ guardOf all S t.o = .run ∧ step1 tbl hk fr t.o (evR S (tmpsOf t.o.op.operands.toList)) (mR S t.rd) = some (ps, e') ∧ All ps ∧ Alike e e'
def runAll (S : AS) : List Tr → AS
  | [] => S
  | t :: l => runAll (t.app S) l
theorem runAll_append (S : AS) : ∀ (l m : List Tr), runAll S (l ++ m) = runAll (runAll S l) m := by
  intro l
  induction l generalizing S with
  | nil => intro m; rfl
  | cons t l ih => intro m; exact ih _ m
/-- What was run from here on, each at the state that was there. -/
def RanAll (tbl : Tbl) (hk : Hook) (nt : Nat) (all : List Oper) : List Tr → Nat → Nat → AS → Prop
  | [], _, _, _ => True
  | t :: l, i, fr, S => Ran tbl hk nt all i fr t S ∧ RanAll tbl hk nt all l (i + 1) (fr + 16) (t.app S)
theorem vcD_trace {tbl : Tbl} {hk : Hook} {nt : Nat} {all : List Oper} : ∀ {l : List Oper} {i fr : Nat} {done : List Tr} {S : AS} {K : List Tr → AS → Prop},
    vcD tbl hk nt all l i fr done S K → ∃ T, T.map (·.o) = l ∧ RanAll tbl hk nt all T i fr S ∧ K (done ++ T) (runAll S T) := by
  intro l
  induction l with
  | nil => intro i fr done S K h; unfold vcD at h; exact ⟨[], rfl, trivial, by rw [List.append_nil]; exact h⟩
  | cons o l ih =>
    intro i fr done S K h
    unfold vcD at h
    cases hd : dstOK nt o with
    | false => rw [hd] at h; exact h.elim
    | true =>
      rw [hd, cond_true] at h
      split at h
      · rename_i hg
        split at h
        · rename_i ps e hs
          obtain ⟨hp, h⟩ := Needs_all h
          have go : ∀ e1 : Eff, Alike e1 e → vcD tbl hk nt all l (i + 1) (fr + 16) (done ++ [⟨o, reach S o, some e1⟩]) (S.upd o.dst e1) K → ∃ T, T.map (·.o) = o :: l ∧ RanAll tbl hk nt all T i fr S ∧ K (done ++ T) (runAll S T) := by
            intro e1 ha h1
            obtain ⟨T, g1, g2, g3⟩ := ih h1
            refine ⟨⟨o, reach S o, some e1⟩ :: T, by simp [g1], ⟨⟨hd, .inr ⟨e1, ps, e, rfl, hg, hs, hp, ha⟩⟩, g2⟩, ?_⟩
            rw [List.append_assoc] at g3
            exact g3
          split at h
          · rename_i b hb _
            cases b with
            | true => exact go _ (.inr ⟨true, hb, rfl⟩) h
            | false => exact go _ (.inr ⟨false, hb, rfl⟩) h
          · exact go _ (.inl rfl) h
        · exact h.elim
      · rename_i hg
        obtain ⟨T, g1, g2, g3⟩ := ih h
        refine ⟨⟨o, [], none⟩ :: T, by simp [g1], ⟨⟨hd, .inl ⟨rfl, rfl, hg⟩⟩, g2⟩, ?_⟩
        rw [List.append_assoc] at g3
        exact g3
      · exact h.elim
theorem subS_all (X : Nat → Bool) : ∀ (T : List Tr) (S : AS) (i : Nat), (∀ j, j < T.length → X (i + j) = true) → subS S T X i = runAll S T := by
  intro T
  induction T with
  | nil => intro S i _; rfl
  | cons t T ih =>
    intro S i h
    unfold subS runAll
    have h0 := h 0 (by simp)
    rw [Nat.add_zero] at h0
    rw [h0, cond_true]
    exact ih _ (i + 1) fun j hj => by
      have := h (j + 1) (by simp; omega)
      rwa [show i + 1 + j = i + (j + 1) by omega]
theorem subS_none (X : Nat → Bool) : ∀ (T : List Tr) (S : AS) (i : Nat), (∀ j, j < T.length → X (i + j) = false) → subS S T X i = S := by
  intro T
  induction T with
  | nil => intro S i _; rfl
  | cons t T ih =>
    intro S i h
    unfold subS
    have h0 := h 0 (by simp)
    rw [Nat.add_zero] at h0
    rw [h0, cond_false]
    exact ih _ (i + 1) fun j hj => by
      have := h (j + 1) (by simp; omega)
      rwa [show i + 1 + j = i + (j + 1) by omega]
theorem RanAll_get {tbl : Tbl} {hk : Hook} {nt : Nat} {all : List Oper} (n : Nat) : ∀ {T : List Tr} {i fr : Nat} {S : AS}, RanAll tbl hk nt all T i fr S → ∀ t, T[n]? = some t → Ran tbl hk nt all (i + n) (fr + 16 * n) t (subS S T (fun j => Nat.blt j (i + n)) i) := by
  induction n with
  | zero =>
    intro T i fr S h t ht
    cases T with
    | nil => simp at ht
    | cons u T =>
      simp only [List.getElem?_cons_zero, Option.some.injEq] at ht
      subst ht
      rw [subS_none _ _ _ _ fun j _ => by
        cases hb : Nat.blt (i + j) (i + 0) with
        | false => rfl
        | true => rw [Nat.blt_eq] at hb; omega]
      exact h.1
  | succ n ih =>
    intro T i fr S h t ht
    cases T with
    | nil => simp at ht
    | cons u T =>
      have := ih h.2 t (by simpa using ht)
      unfold subS
      have hb : Nat.blt i (i + (n + 1)) = true := by rw [Nat.blt_eq]; omega
      rw [show (fun j => Nat.blt j (i + (n + 1))) i = true from hb, cond_true]
      rw [show i + 1 + n = i + (n + 1) by omega, show fr + 16 + 16 * n = fr + 16 * (n + 1) by omega] at this
      exact this

/-! ### any order -/
theorem Sat.look {C : Ctx} {ρ : Env} {S S' : AS} {a : Act} {w : World} (h : Sat C ρ S a w) (hs : ∀ t, S'.slot t = S.slot t) (hb : ∀ k, S'.blk k = S.blk k) : Sat C ρ S' a w where
  frame := h.frame
  tsize := h.tsize
  defers := h.defers
  one := h.one
  pin := h.pin
  slots := fun t x hx hne => h.slots t x (by rwa [hs] at hx) hne
  mem := fun k b hk => h.mem k b (by rwa [hb] at hk)
  apart := fun k k' b b' v v' hne hk hk' hm hv hv' => h.apart k k' b b' v v' hne (by rwa [hb] at hk) (by rwa [hb] at hk') hm hv hv'
theorem Sat.alike {C : Ctx} {ρ : Env} {S : AS} {a : Act} {w : World} {dst : Option Nat} {e e' : Eff} (ha : Alike e e') (h : Sat C ρ (S.upd dst e') a w) : Sat C ρ (S.upd dst e) a w := by
  rcases ha with rfl | ⟨b, hb, rfl⟩
  · exact h
  · cases dst with
    | none => exact h.look (fun t => by simp [AS.upd_slot]) (fun k => by rw [AS.upd_blk, AS.upd_blk]; rfl)
    | some d =>
      have h1 := h.know (d := d) (b := b) (by rw [AS.upd_slot, if_pos rfl, hb])
      refine h1.look (fun t => ?_) (fun k => ?_)
      · rw [AS.upd_slot]
        simp only [AS.know, AS.slot, look_cons, Option.some.injEq]
        split
        · rfl
        · rename_i hne
          have := AS.upd_slot S (some d) e' t
          rw [if_neg (by simpa using hne)] at this
          exact this.symm
      · show _ = (S.upd (some d) e').blk k
        rw [AS.upd_blk, AS.upd_blk]; rfl
theorem meetSlot_of {d : Nat} {x : Option Nat} {l : List Nat} (hx : x = some d) (hd : d ∈ l) : meetSlot x l = true := by
  subst hx; exact elemN_mem.2 hd
theorem meetAny_of {k : Nat} {a b : List Nat} (ha : k ∈ a) (hb : k ∈ b) : meetAny a b = true := List.any_eq_true.2 ⟨k, ha, elemN_mem.2 hb⟩
section
variable {C : Ctx} {tbl : Tbl} {hk : Hook} {G : Ctx → Prop}
/-- Who clashes with what is not listed is not listed either; who clashes with what is ready is listed. -/
structure Lin (T : List Tr) (X : Nat → Bool) (n : Nat) (u : Tr) : Prop where
  at_ : T[n]? = some u
  notIn : X n = false
  before : ∀ j t all, j < n → T[j]? = some t → T.map (·.o) = all → clash all t u = true → X j = true
  behind : ∀ j t all, n < j → T[j]? = some t → T.map (·.o) = all → clash all u t = true → X j = false
theorem Lin.slot {T : List Tr} {X : Nat → Bool} {n : Nat} {u : Tr} (L : Lin T X n u) {all : List Oper} (hall : T.map (·.o) = all) (S : AS) {d : Nat} (hd : d ∈ seesOf all u.o) :
    (subS S T X 0).slot d = (subS S T (fun j => Nat.blt j (0 + n)) 0).slot d := by
  refine subS_slot d T S S _ _ 0 rfl fun j t ht hdst => ?_
  rw [Nat.zero_add, Nat.zero_add]
  rcases Nat.lt_trichotomy j n with h | h | h
  · rw [L.before j t all h ht hall (by simp [clash, meetSlot_of hdst hd]), (show Nat.blt j n = true by rw [Nat.blt_eq]; exact h)]
  · subst h
    rw [L.notIn]
    cases hb : Nat.blt j j with
    | false => rfl
    | true => rw [Nat.blt_eq] at hb; omega
  · rw [L.behind j t all h ht hall (by simp [clash, meetSlot_of hdst hd])]
    cases hb : Nat.blt j n with
    | false => rfl
    | true => rw [Nat.blt_eq] at hb; omega
theorem Lin.blk {T : List Tr} {X : Nat → Bool} {n : Nat} {u : Tr} (L : Lin T X n u) (S : AS) {k : Nat} (hk : k ∈ u.rd) :
    (subS S T X 0).blk k = (subS S T (fun j => Nat.blt j (0 + n)) 0).blk k := by
  refine subS_blk k T S S _ _ 0 rfl fun j t ht hkey => ?_
  rw [Nat.zero_add, Nat.zero_add]
  rcases Nat.lt_trichotomy j n with h | h | h
  · rw [L.before j t _ h ht rfl (by simp [clash, meetAny_of hkey hk]), (show Nat.blt j n = true by rw [Nat.blt_eq]; exact h)]
  · subst h
    rw [L.notIn]
    cases hb : Nat.blt j j with
    | false => rfl
    | true => rw [Nat.blt_eq] at hb; omega
  · rw [L.behind j t _ h ht rfl (by simp [clash, meetAny_of hkey hk])]
    cases hb : Nat.blt j n with
    | false => rfl
    | true => rw [Nat.blt_eq] at hb; omega
def setX (X : Nat → Bool) (n : Nat) : Nat → Bool := fun j => Nat.beq j n || X j
theorem setX_self (X : Nat → Bool) (n : Nat) : setX X n n = true := by simp [setX]
theorem setX_ne (X : Nat → Bool) {n j : Nat} (h : j ≠ n) : setX X n j = X j := by
  have : Nat.beq j n = false := by
    cases hb : Nat.beq j n with
    | false => rfl
    | true => exact absurd (Nat.eq_of_beq_eq_true hb) h
  simp [setX, this]
theorem Lin.put {T : List Tr} {X : Nat → Bool} {n : Nat} {u : Tr} (L : Lin T X n u) (S : AS) {ρ : Env} {a : Act} {w : World} (h : Sat C ρ (u.app (subS S T X 0)) a w) : Sat C ρ (subS S T (setX X n) 0) a w := by
  refine h.look (fun d => ?_) (fun k => ?_)
  · by_cases hd : u.o.dst = some d
    · refine subS_slot_last d T S _ 0 n u L.at_ (by rw [Nat.zero_add]; exact setX_self X n) hd (fun j t hj ht hdt => ?_) _
      rw [Nat.zero_add, setX_ne X (by omega)]
      exact L.behind j t _ hj ht rfl (by simp [clash, sameDst, hd, hdt])
    · rw [Tr.app_slot _ _ _ hd]
      refine subS_slot d T S S _ _ 0 rfl fun j t ht hdt => ?_
      rw [Nat.zero_add]
      by_cases hj : j = n
      · subst hj; rw [L.at_] at ht; cases ht; exact absurd hdt hd
      · exact setX_ne X hj
  · by_cases hkk : k ∈ u.keys
    · refine subS_blk_last k T S _ 0 n u L.at_ (by rw [Nat.zero_add]; exact setX_self X n) hkk (fun j t hj ht hkt => ?_) _
      rw [Nat.zero_add, setX_ne X (by omega)]
      exact L.behind j t _ hj ht rfl (by simp [clash, meetAny_of hkk hkt])
    · rw [Tr.app_blk _ _ _ hkk]
      refine subS_blk k T S S _ _ 0 rfl fun j t ht hkt => ?_
      rw [Nat.zero_add]
      by_cases hj : j = n
      · subst hj; rw [L.at_] at ht; cases ht; exact absurd hkt hkk
      · exact setX_ne X hj
def DomX (ρ : Env) (fr : Nat) (X : Nat → Bool) : Prop := ∀ k v, ρ k = some v → k < fr ∨ ∃ j, X j = true ∧ fr + 16 * j ≤ k ∧ k < fr + 16 * (j + 1)
theorem guardOf_slot {all : List Oper} {S S' : AS} {o : Oper} (h : ∀ d, d ∈ seesOf all o → S'.slot d = S.slot d) : guardOf all S' o = guardOf all S o := by
  unfold guardOf
  cases hg : o.guard with
  | none => rfl
  | some g =>
    obtain ⟨j, want⟩ := g
    simp only
    cases hd : (all[j]?).bind (·.dst) with
    | none => rfl
    | some d =>
      simp only
      rw [h d (by unfold seesOf; rw [hg]; simp [hd])]
theorem tmpsOf_sees {all : List Oper} {o : Oper} {d : Nat} (h : d ∈ tmpsOf o.op.operands.toList) : d ∈ seesOf all o := by
  unfold seesOf
  split
  · split
    · exact List.mem_cons_of_mem _ h
    · exact h
  · exact h
theorem guard_run {all : Array Oper} {ρ : Env} {S : AS} {a : Act} {w : World} (h : Sat C ρ S a w) {o : Oper} (hg : guardOf all.toList S o = .run) : Region.wanted o (yielded all a.tmps) = true := by
  unfold guardOf at hg
  split at hg
  · rename_i hgd; unfold Region.wanted; rw [hgd]
  · rename_i j want hgd
    split at hg
    · rename_i d hj
      unfold Region.wanted
      rw [hgd]
      split at hg
      · rename_i hs
        cases want with
        | true => simp only [yields h hj hs rfl]; rfl
        | false => cases hg
      · rename_i hs
        cases want with
        | true => cases hg
        | false => simp only [yields h hj hs rfl]; rfl
      · cases hg
      · cases hg
      · cases hg
    · cases hg
theorem guard_skip {all : Array Oper} {ρ : Env} {S : AS} {a : Act} {w : World} (h : Sat C ρ S a w) {o : Oper} (hg : guardOf all.toList S o = .skip) : Region.wanted o (yielded all a.tmps) = false := by
  unfold guardOf at hg
  split at hg
  · cases hg
  · rename_i j want hgd
    split at hg
    · rename_i d hj
      unfold Region.wanted
      rw [hgd]
      split at hg
      · rename_i hs
        cases want with
        | true => cases hg
        | false => simp only [yields h hj hs rfl]; rfl
      · rename_i hs
        cases want with
        | true => simp only [yields h hj hs rfl]; rfl
        | false => cases hg
      · cases hg
      · rename_i hs
        simp only [yields_none h hj hs]
        cases want <;> rfl
      · cases hg
    · cases hg
/-- One operation, run in whatever order. -/
theorem draw_op (hT : tblOK C.P tbl) (hH : HookOK tbl G hk) (hG : G C) {ops : Array Oper} {T : List Tr} (hall : T.map (·.o) = ops.toList) {fr : Nat} (h16 : 16 ≤ fr) {S : AS} (hR : RanAll tbl hk C.nt ops.toList T 0 fr S)
    {X : Nat → Bool} {n : Nat} {u : Tr} (L : Lin T X n u) {ρ : Env} {a : Act} {w : World} (h : Sat C ρ (subS S T X 0) a w) (hd : DomX ρ fr X) (Q : Exit → Act → World → Prop) (K : Act → World → Prop)
    (hK : ∀ ρ' a' w', Sat C ρ' (subS S T (setX X n) 0) a' w' → DomX ρ' fr (setX X n) → K a' w') : wpOp C.P ops Q n K a w := by
  have ho : ops[n]? = some u.o := by
    have := congrArg (fun l : List Oper => l[n]?) hall
    simp only [List.getElem?_map, L.at_, Option.map_some] at this
    rw [Array.getElem?_toList] at this
    exact this.symm
  have R := RanAll_get n hR u L.at_
  rw [Nat.zero_add] at R
  have hslot : ∀ d, d ∈ seesOf ops.toList u.o → (subS S T X 0).slot d = (subS S T (fun j => Nat.blt j (0 + n)) 0).slot d := fun d hd => L.slot hall S hd
  rw [Nat.zero_add] at hslot
  have hgd := guardOf_slot hslot
  have hmono : ∀ k v, ρ k = some v → k < fr ∨ ∃ j, setX X n j = true ∧ fr + 16 * j ≤ k ∧ k < fr + 16 * (j + 1) := by
    intro k v hkv
    rcases hd k v hkv with h1 | ⟨j, h1, h2⟩
    · exact .inl h1
    · exact .inr ⟨j, by simp [setX, h1], h2⟩
  unfold wpOp
  simp only [ho]
  rcases R.how with ⟨hres, _, hg⟩ | ⟨e, ps, e', hres, hg, hs, hp, ha⟩
  · rw [← hgd] at hg
    rw [if_neg (by rw [guard_skip h hg]; simp)]
    have h1 := h.skip R.dst
    refine hK ρ _ _ (L.put S ?_) hmono
    unfold Tr.app
    rw [hres]
    exact h1
  · rw [← hgd] at hg
    rw [if_pos (guard_run h hg)]
    refine .inl ?_
    have H : Here C tbl ρ (subS S T X 0) a w (fr + 16 * n) u.o (evR (subS S T (fun j => Nat.blt j n) 0) (tmpsOf u.o.op.operands.toList)) (mR (subS S T (fun j => Nat.blt j n) 0) u.rd) := by
      refine ⟨h, hT, ?_, ?_, ?_, by omega, ?_⟩
      · intro x sv hx
        cases x with
        | tmp t =>
          simp only [evR] at hx
          cases hm : elemN t (tmpsOf u.o.op.operands.toList) with
          | false => rw [hm] at hx; cases hx
          | true =>
            rw [hm, cond_true] at hx
            rw [← hx]
            simp only [AS.ev]
            rw [hslot t (tmpsOf_sees (elemN_mem.1 hm))]
        | _ => exact hx
      · intro k b hb
        simp only [mR] at hb
        cases hm : elemN k u.rd with
        | false => rw [hm] at hb; cases hb
        | true =>
          rw [hm, cond_true] at hb
          have := L.blk S (elemN_mem.1 hm)
          rw [Nat.zero_add] at this
          rw [this]; exact hb
      · intro k h1 h2
        cases hr : ρ k with
        | none => rfl
        | some v =>
          rcases hd k v hr with h3 | ⟨j, h3, h4, h5⟩
          · omega
          · have : j = n := by omega
            subst this
            rw [L.notIn] at h3; cases h3
      · intro d hdd
        have := R.dst
        unfold dstOK at this; rw [hdd] at this; simpa [Nat.blt_eq] using this
    refine step1_sound hH hG H hs hp K Q fun ρ' a' w' _ hD hsat => ?_
    refine hK ρ' a' w' (L.put S ?_) ?_
    · unfold Tr.app
      rw [hres]
      exact hsat.alike ha
    · intro k v hkv
      rcases hD k v hkv with ⟨v', hv'⟩ | h1
      · exact hmono k v' hv'
      · exact .inr ⟨n, setX_self X n, by omega, by omega⟩
theorem clash_any {all : List Oper} {T : List Tr} (h : T.map (·.o) = all) {t u : Tr} {all' : List Oper} (h' : T.map (·.o) = all') (hc : clash all' t u = true) : clash all t u = true := by
  rw [← h, h']; exact hc
theorem ready_none {ops : Array Oper} {listed : Array Bool} (hb : backOK ops.toList 0 = true) (hr : Region.ready .any ops listed = []) : ∀ j, j < ops.size → listed.getD j true = true := by
  have back : ∀ (l : List Oper) (i j : Nat) (o : Oper), backOK l i = true → l[j]? = some o → ∀ e ∈ o.after.toList, Region.binds .any e = true → e.on < i + j := by
    intro l
    induction l with
    | nil => intro i j o _ h; simp at h
    | cons v l ih =>
      intro i j o h hj e he hbe
      simp only [backOK, Bool.and_eq_true] at h
      cases j with
      | zero =>
        simp only [List.getElem?_cons_zero, Option.some.injEq] at hj
        subst hj
        have := List.all_eq_true.1 h.1 e he
        rw [hbe] at this
        simpa [Nat.blt_eq] using this
      | succ j =>
        have := ih (i + 1) j o h.2 (by simpa using hj) e he hbe
        omega
  intro j
  induction j using Nat.strongRecOn with
  | _ j ih =>
    intro hj
    cases hl : listed.getD j true with
    | true => rfl
    | false =>
      exfalso
      have : j ∈ Region.ready .any ops listed := by
        rw [mem_ready]
        refine ⟨hl, ops[j], Array.getElem?_eq_getElem hj, fun e he hbe => ?_⟩
        have hlt := back ops.toList 0 j ops[j] hb (by simp [Array.getElem?_toList, hj]) e (by simpa using he) hbe
        rw [Nat.zero_add] at hlt
        have := ih e.on hlt (by omega)
        by_cases hs : e.on < listed.size
        · simpa [hs] using this
        · have hjs : j < listed.size := by
            rcases Nat.lt_or_ge j listed.size with h' | h'
            · exact h'
            · simp [Array.getElem?_eq_none h'] at hl
          omega
      rw [hr] at this
      cases this
theorem draw_any (hT : tblOK C.P tbl) (hH : HookOK tbl G hk) (hG : G C) {ops : Array Oper} {T : List Tr} (hall : T.map (·.o) = ops.toList) {fr : Nat} (h16 : 16 ≤ fr) {S : AS} (hR : RanAll tbl hk C.nt ops.toList T 0 fr S)
    (hb : backOK ops.toList 0 = true) (hi : indep ops.toList (masks ops.toList []) [] 0 T = true) (Q : Exit → Act → World → Prop)
    (hQ : ∀ ρ' a' w', Sat C ρ' (runAll S T) a' w' → DomLt ρ' (fr + 16 * ops.size) → Q .normal a' w') : ∀ (fuel : Nat) (listed : Array Bool) (ρ : Env) (a : Act) (w : World), listed.size = ops.size → listed.toList.count false ≤ fuel →
    ClosedX ops.toList (fun j => listed.getD j false) → Sat C ρ (subS S T (fun j => listed.getD j false) 0) a w → DomX ρ fr (fun j => listed.getD j false) → wpAny C.P .any ops Q fuel listed a w := by
  have hlen : T.length = ops.size := by have := congrArg List.length hall; simpa using this
  have full : ∀ (listed : Array Bool) (ρ : Env) (a : Act) (w : World), listed.size = ops.size → Region.ready .any ops listed = [] → Sat C ρ (subS S T (fun j => listed.getD j false) 0) a w → DomX ρ fr (fun j => listed.getD j false) → Q .normal a w := by
    intro listed ρ a w hsz hr h hd
    have hfull : ∀ j, j < ops.size → listed.getD j false = true := fun j hj => by
      have := ready_none hb hr j hj
      simpa [hsz, hj] using this
    refine hQ ρ a w ?_ ?_
    · rw [subS_all _ _ _ _ fun j hj => by rw [Nat.zero_add]; exact hfull j (by omega)] at h
      exact h
    · intro k v hk
      rcases hd k v hk with h1 | ⟨j, h1, h2, h3⟩
      · omega
      · have : j < ops.size := by
          rcases Nat.lt_or_ge j ops.size with h' | h'
          · exact h'
          · simp [Array.getElem?_eq_none (show listed.size ≤ j by omega)] at h1
        have : 16 * (j + 1) ≤ 16 * ops.size := Nat.mul_le_mul_left 16 this
        omega
  intro fuel
  induction fuel with
  | zero =>
    intro listed ρ a w hsz hc hX h hd
    have hr : Region.ready .any ops listed = [] := by
      rw [List.eq_nil_iff_forall_not_mem]
      intro j hj
      have h0 := (mem_ready.1 hj).1
      have hjs : j < listed.size := by
        rcases Nat.lt_or_ge j listed.size with h' | h'
        · exact h'
        · simp [Array.getElem?_eq_none h'] at h0
      have h1 : listed.toList[j]? = some false := by
        simp [hjs] at h0
        simp [hjs, h0]
      have := List.count_pos_iff.2 (List.mem_of_getElem? h1)
      omega
    exact ⟨hr, full listed ρ a w hsz hr h hd⟩
  | succ fuel ih =>
    intro listed ρ a w hsz hc hX h hd
    refine ⟨fun hr => full listed ρ a w hsz hr h hd, fun n hn => ?_⟩
    obtain ⟨hun, o, ho, hpre⟩ := mem_ready.1 hn
    have hns : n < ops.size := (Array.getElem?_eq_some_iff.1 ho).1
    have hno : listed.getD n false = false := by
      simp [show n < listed.size by omega] at hun ⊢
      exact hun
    obtain ⟨u, hu⟩ : ∃ u, T[n]? = some u := ⟨T[n]'(by omega), List.getElem?_eq_getElem (by omega)⟩
    have huo : u.o = o := by
      have := congrArg (fun l : List Oper => l[n]?) hall
      simp only [List.getElem?_map, hu, Option.map_some] at this
      rw [Array.getElem?_toList, ho] at this
      exact Option.some.inj this
    have hL : Lin T (fun j => listed.getD j false) n u := by
      refine ⟨hu, hno, ?_, ?_⟩
      · intro j t all hjn ht hal hcl
        have hbit := indep_get (done := []) rfl hi j n t u hjn (by simpa using ht) (by simpa using hu) (Nat.zero_le _) (clash_any hall hal hcl)
        exact path_in hX hb n o (by simpa using ho) (fun e he hbe => hpre e (by simpa using he) hbe) j hbit
      · intro j t all hjn ht hal hcl
        cases hj : listed.getD j false with
        | false => rfl
        | true =>
          exfalso
          have hbit := indep_get (done := []) rfl hi n j u t hjn (by simpa using hu) (by simpa using ht) (Nat.zero_le _) (clash_any hall hal hcl)
          have hjs : j < ops.size := by have := (List.getElem?_eq_some_iff.1 ht).1; omega
          have := path_in hX hb j ops[j] (by simp [Array.getElem?_toList, hjs]) (fun e he hbe => hX j ops[j] (by simp [Array.getElem?_toList, hjs]) hj e he hbe) n hbit
          rw [hno] at this; cases this
    have hset : (fun j => (listed.setIfInBounds n true).getD j false) = setX (fun j => listed.getD j false) n := by
      funext j
      by_cases hj : j = n
      · subst hj
        rw [setX_self]
        simp [show j < listed.size by omega]
      · rw [setX_ne _ hj, getD_set_ne false (Ne.symm hj)]
    refine draw_op hT hH hG hall h16 hR hL h hd Q _ fun ρ' a' w' hs' hd' => ?_
    refine ih _ ρ' a' w' (by simpa using hsz) ?_ ?_ (by rw [hset]; exact hs') (by rw [hset]; exact hd')
    · have hlt : n < listed.toList.length := by simp; omega
      have hget : listed.toList[n] = false := by
        simp [show n < listed.size by omega] at hno
        simpa using hno
      rw [Array.toList_setIfInBounds, List.count_set hlt]
      rw [hget]
      have hpos : 0 < listed.toList.count false := List.count_pos_iff.2 (hget ▸ List.getElem_mem hlt)
      simp
      simp at hc
      omega
    · intro j o' ho' hj e he hbe
      refine (congrFun hset e.on).trans ?_
      have hj' : setX (fun j => listed.getD j false) n j = true := by rw [← hset]; exact hj
      by_cases hjn : j = n
      · subst hjn
        have : o' = o := by
          rw [Array.getElem?_toList, ho] at ho'
          exact (Option.some.inj ho').symm
        subst this
        simp [setX, hpre e (by simpa using he) hbe]
      · rw [setX_ne _ hjn] at hj'
        have := hX j o' ho' hj' e he hbe
        simp [setX, this]
theorem vc_region_draw (hm : C.P.follows .mixedOrders = true) (hT : tblOK C.P tbl) (hH : HookOK tbl G hk) (hG : G C) {id : Nat} {ops : Array Oper} {ρ : Env} {S : AS} {a : Act} {w : World} (h : Sat C ρ S a w) (hd : DomLt ρ S.next) (h16 : 16 ≤ S.next) {K : AS → Prop}
    (hv : vcDraw tbl hk C.nt ops.toList S K) {Q : Exit → Act → World → Prop}
    (hQ : ∀ ρ' S' a' w', Sat C ρ' S' a' w' → DomLt ρ' (S.next + 16 * ops.size) → K S' → Q .normal a' w') : (Code.region id ops true).wp C.P Q a w := by
  unfold vcDraw at hv
  cases hb : backOK ops.toList 0 with
  | false => rw [hb] at hv; exact hv.elim
  | true =>
    rw [hb, cond_true] at hv
    obtain ⟨T, g1, g2, g3⟩ := vcD_trace hv
    rw [List.nil_append] at g3
    cases hi : indep ops.toList (masks ops.toList []) [] 0 T with
    | false => rw [hi] at g3; exact g3.elim
    | true =>
      rw [hi, cond_true] at g3
      refine wp_region_any hm ?_
      refine draw_any hT hH hG g1 h16 g2 hb hi Q (fun ρ' a' w' h1 h2 => hQ ρ' _ a' w' h1 h2 g3) ops.size _ ρ a _ (by simp) ?_ ?_ ?_ ?_
      · simp
      · intro j o ho hj
        simp [Array.getElem?_replicate] at hj
        split at hj <;> simp at hj
      · rw [subS_none _ _ _ _ fun j _ => by simp [Array.getElem?_replicate]; split <;> simp]
        exact ⟨⟨h.frame.os, h.frame.tape, h.frame.output, h.frame.size, h.frame.block⟩, h.tsize, h.defers, h.one, h.pin, h.slots, h.mem, h.apart⟩
      · intro k v hk; exact .inl (hd k v hk)
end
end Go.Proofs.YtglfkihckkjniaaGreatDoor.Vx
