/-
VX, part G: operations, continued: numbers, texts, slices. No statement of the seat is proved here.
-/
import Derived.Test.YtglfkihckkjniaaGreatDoorVxF
import Derived.Deep.AppendLies
import Derived.Lib.Strings
set_option linter.unusedVariables false
set_option linter.unusedSimpArgs false
namespace Go.Proofs.YtglfkihckkjniaaGreatDoor.Vx
open Go Go.RowKit
section
variable {C : Ctx} {tbl : Tbl} {ρ : Env} {S : AS} {a : Act} {w : World} {fr : Nat} {o : Oper} {ev : Evl} {m : Mem}

def bitsOf (op : BinOp) (k : IntKind) (x y : Int) : Int :=
  let a := BitVec.ofInt k.bits x
  let b := BitVec.ofInt k.bits y
  match op with
  | .and => k.wrap (a &&& b).toNat
  | .or => k.wrap (a ||| b).toNat
  | .xor => k.wrap (a ^^^ b).toNat
  | _ => k.wrap (a &&& ~~~b).toNat
/-- A number of a kind. -/
def inR (k : IntKind) (z : Int) : Prop :=
  match k with
  | .i8 => -128 ≤ z ∧ z ≤ 127
  | .i16 => -32768 ≤ z ∧ z ≤ 32767
  | .i32 => -2147483648 ≤ z ∧ z ≤ 2147483647
  | .i64 => -9223372036854775808 ≤ z ∧ z ≤ 9223372036854775807
  | .u8 => 0 ≤ z ∧ z ≤ 255
  | .u16 => 0 ≤ z ∧ z ≤ 65535
  | .u32 => 0 ≤ z ∧ z ≤ 4294967295
  | .u64 => 0 ≤ z ∧ z ≤ 18446744073709551615
theorem wrap_in {k : IntKind} {z : Int} (h : inR k z) : k.wrap z = z := by
  cases k <;> simp only [inR] at h <;> simp [IntKind.wrap, IntKind.bits, IntKind.signed] <;> omega
def intBin (op : BinOp) (k : IntKind) (x y : Int) : Option (Prop × SC) :=
  match op with
  | .add => some (inR k (x + y), .int k (x + y))
  | .sub => some (inR k (x - y), .int k (x - y))
  | .mul => some (inR k (x * y), .int k (x * y))
  | .quo => some (0 ≤ x ∧ 0 < y ∧ inR k (x / y), .int k (x / y))
  | .rem => some (0 ≤ x ∧ 0 < y, .int k (x % y))
  | .eql => some (True, .bool (x == y))
  | .neq => some (True, .bool (x != y))
  | .lss => some (True, .bool (decide (x < y)))
  | .leq => some (True, .bool (decide (x ≤ y)))
  | .gtr => some (True, .bool (decide (x > y)))
  | .geq => some (True, .bool (decide (x ≥ y)))
  | .and => some (True, .int k (bitsOf .and k x y))
  | .or => some (True, .int k (bitsOf .or k x y))
  | .xor => some (True, .int k (bitsOf .xor k x y))
  | .andNot => some (True, .int k (bitsOf .andNot k x y))
  | _ => none
def shBin (op : BinOp) (k : IntKind) (x y : Int) : Option (Prop × SC) :=
  match op with
  | .shl => some (0 ≤ y, .int k (k.wrap (x * 2 ^ (min y.toNat k.bits))))
  | .shr => some (0 ≤ y, .int k (x.fdiv (2 ^ (min y.toNat k.bits))))
  | _ => none
def strBin (op : BinOp) (x y : List UInt8) : Option (Prop × SC) :=
  match op with
  | .add => some (x.length + y.length ≤ 9223372036854775807, .str (x ++ y))
  | .eql => some (True, .bool (decide (x = y)))
  | .neq => some (True, .bool (!decide (x = y)))
  | .lss => some (True, .bool (Op.bytesLess x y))
  | .leq => some (True, .bool (Op.bytesLess x y || decide (x = y)))
  | .gtr => some (True, .bool (!(Op.bytesLess x y || decide (x = y))))
  | .geq => some (True, .bool (!Op.bytesLess x y))
  | _ => none
def isBool (tbl : Tbl) (T : TypeId) : Bool := match look T tbl with | some ⟨_, _, _, _, .bool⟩ => true | _ => false
def isStr (tbl : Tbl) (T : TypeId) : Bool := match look T tbl with | some ⟨_, _, _, _, .str⟩ => true | _ => false
def sliceOf (tbl : Tbl) (T : TypeId) : Option TypeId := match look T tbl with | some ⟨_, _, _, _, .slice e⟩ => some e | _ => none
def intOf' (tbl : Tbl) (T : TypeId) : Option IntKind := match look T tbl with | some ⟨_, _, _, _, .int k⟩ => some k | _ => none
def arrOf (tbl : Tbl) (T : TypeId) : Option (Nat × TypeId) := match look T tbl with | some ⟨_, _, _, _, .arr n e⟩ => some (n, e) | _ => none
theorem isBool_get (hT : tblOK C.P tbl) {T : TypeId} (h : isBool tbl T = true) : C.P.underlying T = some .bool := by
  unfold isBool at h
  split at h
  · rename_i hl
    obtain ⟨inf, d, z, t⟩ := tbl_get hT hl
    have hk := t.kind
    simp only [kindOK] at hk
    split at hk
    · exact t.under
    · cases hk
  · cases h
theorem isStr_get (hT : tblOK C.P tbl) {T : TypeId} (h : isStr tbl T = true) : C.P.underlying T = some .string := by
  unfold isStr at h
  split at h
  · rename_i hl
    obtain ⟨inf, d, z, t⟩ := tbl_get hT hl
    have hk := t.kind
    simp only [kindOK] at hk
    split at hk
    · exact t.under
    · cases hk
  · cases h
theorem sliceOf_get (hT : tblOK C.P tbl) {T e : TypeId} (h : sliceOf tbl T = some e) : C.P.underlying T = some (.slice e) := by
  unfold sliceOf at h
  split at h
  · rename_i hl
    cases h
    obtain ⟨inf, d, z, t⟩ := tbl_get hT hl
    have hk := t.kind
    simp only [kindOK] at hk
    split at hk
    · have := Nat.eq_of_beq_eq_true hk; subst this; exact t.under
    · cases hk
  · cases h
theorem intOf_get (hT : tblOK C.P tbl) {T : TypeId} {k : IntKind} (h : intOf' tbl T = some k) : C.P.underlying T = some (.int k) := by
  unfold intOf' at h
  split at h
  · rename_i hl
    cases h
    obtain ⟨inf, d, z, t⟩ := tbl_get hT hl
    have hk := t.kind
    simp only [kindOK] at hk
    split at hk
    · have := of_decide_eq_true hk; subst this; exact t.under
    · cases hk
  · cases h
theorem arrOf_get (hT : tblOK C.P tbl) {T n e : Nat} (h : arrOf tbl T = some (n, e)) : C.P.underlying T = some (.array n e) := by
  unfold arrOf at h
  split at h
  · rename_i hl
    cases h
    obtain ⟨inf, d, z, t⟩ := tbl_get hT hl
    have hk := t.kind
    simp only [kindOK] at hk
    split at hk
    · simp only [Bool.and_eq_true] at hk
      have h1 := Nat.eq_of_beq_eq_true hk.1
      have h2 := Nat.eq_of_beq_eq_true hk.2
      subst h1; subst h2; exact t.under
    · cases hk
  · cases h
def ofBin (x : Option (Prop × SC)) : Option Res := x.map fun r => .eff r.1 ⟨.one r.2, []⟩
def xBinOp (tbl : Tbl) (ev : Evl) (op : BinOp) (T : TypeId) (x y : Operand) : Option Res :=
  match ev x, ev y with
  | some (.one (.int k n)), some (.one (.int k' n')) =>
    match op with
    | .shl | .shr => ofBin (shBin op k n n')
    | _ => bif decide (k = k') then ofBin (intBin op k n n') else none
  | some (.one (.str s)), some (.one (.str s')) => ofBin (strBin op s s')
  | some (.one p), some (.one q) =>
    match boolOf p, boolOf q, op with
    | some b, some c, .eql => bif isBool tbl T then some (.eff True ⟨.one (.bool (b == c)), []⟩) else none
    | some b, some c, .neq => bif isBool tbl T then some (.eff True ⟨.one (.bool (!(b == c))), []⟩) else none
    | _, _, _ => none
  | _, _ => none
theorem intBin_run {op : BinOp} {k : IntKind} {x y : Int} {p : Prop} {r : SC} (h : intBin op k x y = some (p, r)) (hp : p) (P : Program) (T : TypeId) (X Y : Operand) (w : World) (ρ : Env) :
    ∃ v, (do eqGuard op T X Y (.int k x) (.int k y); binOp op T (.int k x) (.int k y) : Sem Value).run P w = .ok v w ∧ den ρ r = some v := by
  have hg : ∀ op', (eqGuard op' T X Y (.int k x) (.int k y)).run P w = .ok () w := by
    intro op'; cases op' <;> rfl
  rw [Sem.run_bind, hg, Result.andThen_ok]
  cases op <;> simp only [intBin, Option.some.injEq, Prod.mk.injEq, reduceCtorEq] at h
  case quo =>
    obtain ⟨rfl, rfl⟩ := h
    have hy : y ≠ 0 := by have := hp.2.1; omega
    refine ⟨.int k (x / y), ?_, rfl⟩
    have e : x.tdiv y = x / y := Int.tdiv_eq_ediv_of_nonneg hp.1
    simp [binOp, Op.intDiv, hy, e, wrap_in hp.2.2]
  case rem =>
    obtain ⟨rfl, rfl⟩ := h
    have hy : y ≠ 0 := by have := hp.2; omega
    refine ⟨.int k (x % y), ?_, rfl⟩
    have e : x.tmod y = x % y := Int.tmod_eq_emod_of_nonneg hp.1
    simp [binOp, Op.intDiv, hy, e]
  case add => obtain ⟨rfl, rfl⟩ := h; exact ⟨_, by simp [binOp, Op.intArith, wrap_in hp], rfl⟩
  case sub => obtain ⟨rfl, rfl⟩ := h; exact ⟨_, by simp [binOp, Op.intArith, wrap_in hp], rfl⟩
  case mul => obtain ⟨rfl, rfl⟩ := h; exact ⟨_, by simp [binOp, Op.intArith, wrap_in hp], rfl⟩
  all_goals
    obtain ⟨rfl, rfl⟩ := h
    exact ⟨_, by simp [binOp, Op.intArith, Op.intCmp, Op.intBits, bitsOf], rfl⟩
theorem run_equal_bool {P : Program} {T : TypeId} (hu : P.underlying T = some .bool) (b c : Bool) (w : World) : (Op.equal T (.bool b) (.bool c)).run P w = .ok (b == c) w := by
  have : ∀ d, (Op.equalIn (d + 1) T (.bool b) (.bool c)).run P w = .ok (b == c) w := by
    intro d
    simp [Op.equalIn, run_underlying hu]
  exact this 9999
set_option maxHeartbeats 1000000 in
theorem does_binOp (H : Here C tbl ρ S a w fr o ev m) {op : BinOp} {T U : TypeId} {x y : Operand} (ho : o.op = .binOp op T x y U) {p : Prop} {e : Eff} (hx : xBinOp tbl ev op T x y = some (.eff p e)) (hp : p) : Does C ρ S a w fr o e := by
  unfold xBinOp at hx
  split at hx
  · rename_i k n k' n' e1 e2
    obtain ⟨u, h1, h2⟩ := H.val e1
    obtain ⟨u', h3, h4⟩ := H.val e2
    simp only [denV, den, Option.some.injEq] at h1 h3
    subst h1; subst h3
    have shift : ∀ op', (op' = .shl ∨ op' = .shr) → o.op = .binOp op' T x y U → ofBin (shBin op' k n n') = some (.eff p e) → Does C ρ S a w fr o e := by
      intro op' hop ho' hx'
      simp only [ofBin, Option.map_eq_some_iff, Res.eff.injEq] at hx'
      obtain ⟨⟨q, r⟩, g1, rfl, rfl⟩ := hx'
      rcases hop with rfl | rfl
      · simp only [shBin, Option.some.injEq, Prod.mk.injEq] at g1
        obtain ⟨rfl, rfl⟩ := g1
        refine H.pure (v := .int k (k.wrap (n * 2 ^ (min n'.toNat k.bits)))) ?_ rfl
        unfold execOp
        simp only [ho', h2, h4]
        have : ¬ n' < 0 := by simp only at hp; omega
        simp [eqGuard, binOp, Op.shift, this]
      · simp only [shBin, Option.some.injEq, Prod.mk.injEq] at g1
        obtain ⟨rfl, rfl⟩ := g1
        refine H.pure (v := .int k (n.fdiv (2 ^ (min n'.toNat k.bits)))) ?_ rfl
        unfold execOp
        simp only [ho', h2, h4]
        have : ¬ n' < 0 := by simp only at hp; omega
        simp [eqGuard, binOp, Op.shift, this]
    split at hx
    · exact shift .shl (.inl rfl) ho hx
    · exact shift .shr (.inr rfl) ho hx
    · cases hk : decide (k = k') with
      | false => rw [hk] at hx; cases hx
      | true =>
        rw [hk] at hx
        have := of_decide_eq_true hk
        subst this
        simp only [cond_true, ofBin, Option.map_eq_some_iff, Res.eff.injEq] at hx
        obtain ⟨⟨q, r⟩, g1, rfl, rfl⟩ := hx
        obtain ⟨v, g2, g3⟩ := intBin_run g1 hp C.P T x y w ρ
        refine H.pure (v := v) ?_ g3
        unfold execOp
        simp only [ho, h2, h4]
        rw [Sem.run_bind, g2]
        rfl
  · rename_i s s' e1 e2
    obtain ⟨u, h1, h2⟩ := H.val e1
    obtain ⟨u', h3, h4⟩ := H.val e2
    simp only [denV, den, Option.some.injEq] at h1 h3
    subst h1; subst h3
    simp only [ofBin, Option.map_eq_some_iff, Res.eff.injEq] at hx
    obtain ⟨⟨q, r⟩, g1, rfl, rfl⟩ := hx
    have hg : ∀ op', (eqGuard op' T x y (.string ⟨s.toArray⟩) (.string ⟨s'.toArray⟩)).run C.P w = .ok () w := by
      intro op'; cases op' <;> rfl
    have heq : ((s : List UInt8) == s') = decide (s = s') := by
      by_cases hss : s = s' <;> simp [hss]
    have key : ∃ v, (binOp op T (.string ⟨s.toArray⟩) (.string ⟨s'.toArray⟩)).run C.P w = .ok v w ∧ den ρ r = some v := by
      cases op <;> simp only [strBin, Option.some.injEq, Prod.mk.injEq, reduceCtorEq] at g1
      case add =>
        obtain ⟨rfl, rfl⟩ := g1
        refine ⟨.string (⟨s.toArray⟩ ++ ⟨s'.toArray⟩), ?_, ?_⟩
        · have hm : IntKind.i64.max = 9223372036854775807 := rfl
          have hs1 : (⟨s.toArray⟩ : ByteArray).size = s.length := by simp [ByteArray.size]
          have hs2 : (⟨s'.toArray⟩ : ByteArray).size = s'.length := by simp [ByteArray.size]
          simp only at hp
          simp only [binOp, Op.stringOp, hs1, hs2, hm]
          rw [if_neg (by omega)]
          rfl
        · simp only [den, Option.some.injEq, Value.string.injEq]
          apply ByteArray.ext
          simp
      all_goals
        obtain ⟨rfl, rfl⟩ := g1
        refine ⟨_, by simp [binOp, Op.stringOp]; rfl, ?_⟩
        simp [den, heq]
    obtain ⟨v, g2, g3⟩ := key
    refine H.pure (v := v) ?_ g3
    unfold execOp
    simp only [ho, h2, h4, Sem.run_bind, hg, Result.andThen_ok, g2]
    rfl
  · rename_i pp qq _ _ e1 e2
    obtain ⟨u, h1, h2⟩ := H.val e1
    obtain ⟨u', h3, h4⟩ := H.val e2
    split at hx
    · rename_i b c hb hc
      rw [show denV ρ (.one pp) = den ρ pp from rfl, boolOf_den hb ρ] at h1
      rw [show denV ρ (.one qq) = den ρ qq from rfl, boolOf_den hc ρ] at h3
      cases h1; cases h3
      cases hT : isBool tbl T with
      | false => rw [hT] at hx; cases hx
      | true =>
        rw [hT] at hx
        cases hx
        have hu := isBool_get H.tbl hT
        refine H.pure (v := .bool (b == c)) ?_ rfl
        unfold execOp
        simp only [ho, h2, h4]
        simp [eqGuard, binOp, run_equal_bool hu]
    · rename_i b c hb hc
      rw [show denV ρ (.one pp) = den ρ pp from rfl, boolOf_den hb ρ] at h1
      rw [show denV ρ (.one qq) = den ρ qq from rfl, boolOf_den hc ρ] at h3
      cases h1; cases h3
      cases hT : isBool tbl T with
      | false => rw [hT] at hx; cases hx
      | true =>
        rw [hT] at hx
        cases hx
        have hu := isBool_get H.tbl hT
        refine H.pure (v := .bool (!(b == c))) ?_ rfl
        unfold execOp
        simp only [ho, h2, h4]
        simp [eqGuard, binOp, run_equal_bool hu]
    · cases hx
  · cases hx
def xConvert (tbl : Tbl) (ev : Evl) (T U : TypeId) (x : Operand) : Option Res :=
  match intOf' tbl T, intOf' tbl U, ev x with
  | some _, some k, some (.one (.int _ n)) => some (.eff (inR k n) ⟨.one (.int k n), []⟩)
  | _, _, _ => none
theorem does_convert (H : Here C tbl ρ S a w fr o ev m) {T U : TypeId} {x : Operand} (ho : o.op = .convert T U x) {p : Prop} {e : Eff} (hx : xConvert tbl ev T U x = some (.eff p e)) (hp : p) : Does C ρ S a w fr o e := by
  unfold xConvert at hx
  split at hx
  · rename_i k1 k j n hT hU hev
    cases hx
    obtain ⟨u, h1, h2⟩ := H.val hev
    simp only [denV, den, Option.some.injEq] at h1
    subst h1
    refine H.pure (v := .int k n) ?_ rfl
    unfold execOp
    simp [ho, h2, convert, run_underlying (intOf_get H.tbl hT), run_underlying (intOf_get H.tbl hU), Conv.intToInt, wrap_in hp]
  · cases hx

/-! interface values -/
def mkIv (T : TypeId) (cs : List SC) : Option Iv :=
  bif Nat.beq T 106 then (match cs with | [.int .i32 r, b, .int .i64 p] => (boolOf b).map fun q => .single r q p | _ => none)
  else bif Nat.beq T 60 then (match cs with | [.int .i32 r, .int .i64 p] => some (.padding r p) | _ => none)
  else bif Nat.beq T 127 then (match cs with | [.int .i32 r, .int .i64 p] => some (.plain r p) | _ => none)
  else bif Nat.beq T 129 then (match cs with | [.int .i32 r, .int .i64 p] => some (.quoted r p) | _ => none)
  else none
theorem mkIv_den {T : TypeId} {cs : List SC} {y : Iv} (h : mkIv T cs = some y) (ρ : Env) : y.ty = T ∧ denL ρ cs = some y.body := by
  unfold mkIv at h
  cases h1 : Nat.beq T 106 with
  | true =>
    have := Nat.eq_of_beq_eq_true h1
    subst this
    rw [h1, cond_true] at h
    split at h
    · simp only [Option.map_eq_some_iff] at h
      obtain ⟨q, hq, rfl⟩ := h
      exact ⟨rfl, denL_cons_some.2 ⟨_, _, rfl, denL_cons_some.2 ⟨_, _, boolOf_den hq ρ, rfl, rfl⟩, rfl⟩⟩
    · cases h
  | false =>
    rw [h1, cond_false] at h
    cases h2 : Nat.beq T 60 with
    | true =>
      have := Nat.eq_of_beq_eq_true h2
      subst this
      rw [h2, cond_true] at h
      split at h
      · cases h; exact ⟨rfl, rfl⟩
      · cases h
    | false =>
      rw [h2, cond_false] at h
      cases h3 : Nat.beq T 127 with
      | true =>
        have := Nat.eq_of_beq_eq_true h3
        subst this
        rw [h3, cond_true] at h
        split at h
        · cases h; exact ⟨rfl, rfl⟩
        · cases h
      | false =>
        rw [h3, cond_false] at h
        cases h4 : Nat.beq T 129 with
        | true =>
          have := Nat.eq_of_beq_eq_true h4
          subst this
          rw [h4, cond_true] at h
          split at h
          · cases h; exact ⟨rfl, rfl⟩
          · cases h
        | false => rw [h4] at h; cases h
def xMakeIface (tbl : Tbl) (ev : Evl) (T : TypeId) (x : Operand) : Option Res :=
  match fieldsOf tbl T, ev x with
  | some _, some (.agg cs) => (mkIv T cs).map fun y => .eff True ⟨.one (.iv y), []⟩
  | _, _ => none
theorem does_makeIface (H : Here C tbl ρ S a w fr o ev m) {T : TypeId} {x : Operand} (ho : o.op = .makeInterface T x) {p : Prop} {e : Eff} (hx : xMakeIface tbl ev T x = some (.eff p e)) : Does C ρ S a w fr o e := by
  unfold xMakeIface at hx
  split at hx
  · rename_i fs cs hT hev
    simp only [Option.map_eq_some_iff, Res.eff.injEq] at hx
    obtain ⟨y, h1, _, rfl⟩ := hx
    obtain ⟨fields, h2, _⟩ := fieldsOf_get H.tbl hT
    obtain ⟨u, h3, h4⟩ := H.val hev
    obtain ⟨rfl, h6⟩ := mkIv_den h1 ρ
    simp only [denV, h6, Option.map_some, Option.some.injEq] at h3
    subst h3
    refine H.pure (v := y.enc) ?_ rfl
    unfold execOp
    simp only [ho, h4, Instr.makeInterface, Sem.run_bind, run_underlying h2, Result.andThen_ok]
    rfl
  · cases hx
def Iv.sR : Iv → Int | .single r _ _ => r | _ => 0
def Iv.sQ : Iv → Bool | .single _ q _ => q | _ => false
def Iv.sP : Iv → Int | .single _ _ p => p | _ => 0
def Iv.isS : Iv → Bool | .single .. => true | _ => false
def Iv.pR : Iv → Int | .padding r _ => r | _ => 0
def Iv.pP : Iv → Int | .padding _ p => p | _ => 0
def Iv.isP : Iv → Bool | .padding .. => true | _ => false
def Iv.lR : Iv → Int | .plain r _ => r | _ => 0
def Iv.lP : Iv → Int | .plain _ p => p | _ => 0
def Iv.isL : Iv → Bool | .plain .. => true | _ => false
def Iv.qR : Iv → Int | .quoted r _ => r | _ => 0
def Iv.qP : Iv → Int | .quoted _ p => p | _ => 0
def Iv.isQ : Iv → Bool | .quoted .. => true | _ => false
def castIv (T : TypeId) (z : List SC) (y : Iv) : Option (List SC × Bool) :=
  bif Nat.beq T 106 then (match z with | [.int .i32 0, .ff, .int .i64 0] => some ([.int .i32 y.sR, .bool y.sQ, .int .i64 y.sP], y.isS) | _ => none)
  else bif Nat.beq T 60 then (match z with | [.int .i32 0, .int .i64 0] => some ([.int .i32 y.pR, .int .i64 y.pP], y.isP) | _ => none)
  else bif Nat.beq T 127 then (match z with | [.int .i32 0, .int .i64 0] => some ([.int .i32 y.lR, .int .i64 y.lP], y.isL) | _ => none)
  else bif Nat.beq T 129 then (match z with | [.int .i32 0, .int .i64 0] => some ([.int .i32 y.qR, .int .i64 y.qP], y.isQ) | _ => none)
  else none
theorem castIv_den {T : TypeId} {z : List SC} {y : Iv} {cs : List SC} {b : Bool} (h : castIv T z y = some (cs, b)) (ρ : Env) :
    (y.ty = T ∧ b = true ∧ denL ρ cs = some y.body) ∨ (y.ty ≠ T ∧ b = false ∧ denL ρ cs = denL ρ z) := by
  unfold castIv at h
  cases h1 : Nat.beq T 106 with
  | true =>
    have := Nat.eq_of_beq_eq_true h1
    subst this
    rw [h1, cond_true] at h
    split at h
    · cases h
      cases y <;> first | exact .inl ⟨rfl, rfl, rfl⟩ | exact .inr ⟨by simp [Iv.ty], rfl, rfl⟩
    · cases h
  | false =>
    rw [h1, cond_false] at h
    cases h2 : Nat.beq T 60 with
    | true =>
      have := Nat.eq_of_beq_eq_true h2
      subst this
      rw [h2, cond_true] at h
      split at h
      · cases h
        cases y <;> first | exact .inl ⟨rfl, rfl, rfl⟩ | exact .inr ⟨by simp [Iv.ty], rfl, rfl⟩
      · cases h
    | false =>
      rw [h2, cond_false] at h
      cases h3 : Nat.beq T 127 with
      | true =>
        have := Nat.eq_of_beq_eq_true h3
        subst this
        rw [h3, cond_true] at h
        split at h
        · cases h
          cases y <;> first | exact .inl ⟨rfl, rfl, rfl⟩ | exact .inr ⟨by simp [Iv.ty], rfl, rfl⟩
        · cases h
      | false =>
        rw [h3, cond_false] at h
        cases h4 : Nat.beq T 129 with
        | true =>
          have := Nat.eq_of_beq_eq_true h4
          subst this
          rw [h4, cond_true] at h
          split at h
          · cases h
            cases y <;> first | exact .inl ⟨rfl, rfl, rfl⟩ | exact .inr ⟨by simp [Iv.ty], rfl, rfl⟩
          · cases h
        | false => rw [h4] at h; cases h
def xTypeAssert (tbl : Tbl) (ev : Evl) (x : Operand) (T : TypeId) (ok : Bool) : Option Res :=
  match look T tbl, ev x with
  | some ⟨_, _, true, z, .struct _⟩, some (.one (.iv y)) =>
    match castIv T z y, ok with
    | some (cs, b), true => some (.eff True ⟨.tup [(true, cs), (false, [.bool b])], []⟩)
    | some (cs, b), false => some (.eff (b = true) ⟨.agg cs, []⟩)
    | none, _ => none
  | _, _ => none
theorem does_typeAssert (H : Here C tbl ρ S a w fr o ev m) {x : Operand} {T U : TypeId} {ok : Bool} (ho : o.op = .typeAssert x U T ok) {p : Prop} {e : Eff} (hx : xTypeAssert tbl ev x T ok = some (.eff p e)) (hp : p) : Does C ρ S a w fr o e := by
  unfold xTypeAssert at hx
  split at hx
  · rename_i sz by_ z fs y hT hev
    obtain ⟨inf, d, zv, t⟩ := tbl_get H.tbl hT
    have hk := t.kind
    simp only [kindOK] at hk
    split at hk
    · rename_i fields
      obtain ⟨u, h1, h2⟩ := H.val hev
      simp only [denV, den, Option.some.injEq] at h1
      subst h1
      have hzf := t.zform
      have hzv : ∃ zs, zv = .agg zs := by
        cases zv <;> simp [zeroForm] at hzf
        exact ⟨_, rfl⟩
      obtain ⟨zs, rfl⟩ := hzv
      split at hx
      · rename_i cs b hc
        cases hx
        rcases castIv_den hc ρ with ⟨g1, g2, g3⟩ | ⟨g1, g2, g3⟩
        · subst g2
          refine H.pure (v := .tuple #[.agg y.body.toArray, .bool true]) ?_ ?_
          · unfold execOp
            simp [ho, h2, Instr.typeAssert, run_underlying t.under, Iv.enc, g1]
          · simp [denV, denC, g3, den]
        · subst g2
          refine H.pure (v := .tuple #[.agg zs, .bool false]) ?_ ?_
          · unfold execOp
            simp [ho, h2, Instr.typeAssert, run_underlying t.under, Iv.enc, g1, t.run_zero]
          · simp [denV, denC, g3, den, t.zden ρ, Value.cells]
      · rename_i cs b hc
        cases hx
        rcases castIv_den hc ρ with ⟨g1, g2, g3⟩ | ⟨g1, g2, g3⟩
        · refine H.pure (v := .agg y.body.toArray) ?_ ?_
          · unfold execOp
            simp [ho, h2, Instr.typeAssert, run_underlying t.under, Iv.enc, g1]
          · simp [denV, g3]
        · subst g2; cases hp
      · cases hx
    · cases hk
  · cases hx
end
end Go.Proofs.YtglfkihckkjniaaGreatDoor.Vx
