/-
VX, part H: operations, continued: indexes, cuts, append, iterators. No statement of the seat is proved here.
-/
import Derived.Test.YtglfkihckkjniaaGreatDoorVxG
set_option linter.unusedVariables false
set_option linter.unusedSimpArgs false
namespace Go.Proofs.YtglfkihckkjniaaGreatDoor.Vx
open Go Go.RowKit
section
variable {C : Ctx} {tbl : Tbl} {ρ : Env} {S : AS} {a : Act} {w : World} {fr : Nat} {o : Oper} {ev : Evl} {m : Mem}

theorem sizeIs (hT : tblOK C.P tbl) {e : TypeId} {i : TI} (h : look e tbl = some i) (w : World) : (sizeOf e).run C.P w = .ok i.size w := by
  obtain ⟨inf, d, z, t⟩ := tbl_get hT h
  exact t.run_size w
def litIx : Operand → Option Nat
  | .const (.int _ (.ofNat n)) => some n
  | _ => none
def pickable : List SC → Bool
  | .int _ _ :: _ | .str _ :: _ | .bool _ :: _ | .tt :: _ | .ff :: _ => true
  | _ => false
def xIndexAddr (tbl : Tbl) (ev : Evl) (m : Mem) (T : TypeId) (x i : Operand) : Option Res :=
  match ev x, ev i with
  | some (.one (.slc k)), some (.one (.int _ n)) =>
    match (sliceOf tbl T).bind fun e => look e tbl, m k with
    | some t, some (.read l) => bif Nat.beq t.size l.sz then some (.eff (0 ≤ n ∧ n < l.len) ⟨.one (.ept k n.toNat l.sz 0), []⟩) else none
    | some t, some (.row _ l) => bif Nat.beq t.size l.sz then some (.eff (0 ≤ n ∧ n < l.len) ⟨.one (.ept k n.toNat l.sz 0), []⟩) else none
    | some t, some (.lit _ c cs) =>
      match litIx i with
      | some j => some (.eff (j < c) ⟨.one (.ptr k (j * t.size)), []⟩)
      | none => bif pickable cs then some (.eff (0 ≤ n ∧ n < c) ⟨.one (.ept k n.toNat t.size 0), []⟩) else some (.eff (0 ≤ n ∧ n < c) ⟨.one (.ptr k (n.toNat * t.size)), []⟩)
    | _, _ => none
  | some (.one (.ptr k off)), some (.one (.int _ n)) =>
    match arrOf tbl T, litIx i with
    | some (c, e), some j =>
      match look e tbl with
      | some t => some (.eff (j < c) ⟨.one (.ptr k (off + j * t.size)), []⟩)
      | none => none
    | _, _ => none
  | _, _ => none
theorem indexAt_slice (hT : tblOK C.P tbl) {T e : TypeId} {t : TI} (h1 : sliceOf tbl T = some e) (h2 : look e tbl = some t) (kd : IntKind) (n : Int) (b oo len cap : Nat) (h0 : 0 ≤ n) (hn : n < len) (w : World) :
    (Instr.indexAt T (.slice (some ⟨b, oo, none⟩) len cap) (.int kd n)).run C.P w = .ok (.pointer (some ⟨b, oo + n.toNat * t.size, none⟩)) w := by
  have hu := sliceOf_get hT h1
  simp [Instr.indexAt, asIntOf, run_underlying hu, h0, hn, sizeIs hT h2, Addr.add_lit]
theorem litIx_val {i : Operand} {j : Nat} (h : litIx i = some j) (a : Act) : ∃ k, a.eval i = .int k (j : Int) := by
  unfold litIx at h
  split at h
  · cases h; exact ⟨_, rfl⟩
  · cases h
theorem does_indexAddr (H : Here C tbl ρ S a w fr o ev m) {T : TypeId} {x i : Operand} (ho : o.op = .indexAddr T x i) {p : Prop} {e : Eff} (hx : xIndexAddr tbl ev m T x i = some (.eff p e)) (hp : p) : Does C ρ S a w fr o e := by
  unfold xIndexAddr at hx
  split at hx
  · rename_i k kd n e1 e2
    obtain ⟨u, h1, h2⟩ := H.val e1
    obtain ⟨u', h3, h4⟩ := H.val e2
    simp only [denV, den, Option.some.injEq] at h1 h3
    subst h3
    have step : ∀ (b oo len cap : Nat) (ee : TypeId) (t : TI), sliceOf tbl T = some ee → look ee tbl = some t → u = .slice (some ⟨b, oo, none⟩) len cap → 0 ≤ n → n < len →
        (execOp a.eval o).run C.P w = .ok (.value (.pointer (some ⟨b, oo + n.toNat * t.size, none⟩))) w := by
      intro b oo len cap ee t g1 g2 g3 g4 g5
      unfold execOp
      simp only [ho, h2, h4, g3]
      rw [Sem.run_bind, indexAt_slice H.tbl g1 g2 kd n b oo len cap g4 g5]
      rfl
    split at hx
    · rename_i t l ht hm
      simp only [Option.bind_eq_some_iff] at ht
      obtain ⟨ee, t1, t2⟩ := ht
      cases hc : Nat.beq t.size l.sz with
      | false => rw [hc] at hx; cases hx
      | true =>
        rw [hc] at hx; cases hx
        have hsz := Nat.eq_of_beq_eq_true hc
        obtain ⟨y, hy, A, c, g1, g2, g3, g4⟩ := H.sat.mem k _ (H.mem k _ hm)
        rw [h1] at hy; cases hy
        obtain ⟨b, oo, q1, q2, q3⟩ := g4 (by omega)
        subst q1; subst g1
        refine H.pure (step b oo l.len c ee t t1 t2 rfl hp.1 hp.2) ?_
        simp [denV, den, h1, elemBase, hsz]
    · rename_i t ty l ht hm
      simp only [Option.bind_eq_some_iff] at ht
      obtain ⟨ee, t1, t2⟩ := ht
      cases hc : Nat.beq t.size l.sz with
      | false => rw [hc] at hx; cases hx
      | true =>
        rw [hc] at hx; cases hx
        have hsz := Nat.eq_of_beq_eq_true hc
        obtain ⟨y, hy, g1, g2⟩ := H.sat.mem k _ (H.mem k _ hm)
        rw [h1] at hy; cases hy
        obtain ⟨b, cap, q1, _, _, q2⟩ := row_cells g1 (by omega)
        subst q1
        refine H.pure (step b 0 l.len cap ee t t1 t2 rfl hp.1 hp.2) ?_
        simp [denV, den, h1, elemBase, hsz]
    · rename_i t ty c cs ht hm
      simp only [Option.bind_eq_some_iff] at ht
      obtain ⟨ee, t1, t2⟩ := ht
      obtain ⟨y, hy, b, vs, g1, g2, g3, g4⟩ := H.sat.mem k _ (H.mem k _ hm)
      rw [h1] at hy; cases hy
      subst g1
      split at hx
      · rename_i j hj
        cases hx
        obtain ⟨kd', hk⟩ := litIx_val hj a
        have hn : n = (j : Int) := by rw [h4] at hk; cases hk; rfl
        subst hn
        have := step b 0 c c ee t t1 t2 rfl (by omega) (by omega)
        refine H.pure this ?_
        simp [denV, den, denPtr, h1, baseOf]
      · cases hpk : pickable cs with
        | true =>
          rw [hpk] at hx
          cases hx
          refine H.pure (step b 0 c c ee t t1 t2 rfl hp.1 hp.2) ?_
          simp [denV, den, h1, elemBase]
        | false =>
          rw [hpk] at hx
          cases hx
          refine H.pure (step b 0 c c ee t t1 t2 rfl hp.1 hp.2) ?_
          simp [denV, den, denPtr, h1, baseOf]
    · cases hx
  · rename_i k off kd n e1 e2
    obtain ⟨u, h1, h2⟩ := H.val e1
    obtain ⟨u', h3, h4⟩ := H.val e2
    simp only [denV, den, denPtr, Option.some.injEq, Option.map_eq_some_iff] at h1 h3
    subst h3
    obtain ⟨b, hb, rfl⟩ := h1
    split at hx
    · rename_i c ee j ha hj
      split at hx
      · rename_i t ht
        cases hx
        obtain ⟨kd', hk⟩ := litIx_val hj a
        have hn : n = (j : Int) := by rw [h4] at hk; cases hk; rfl
        subst hn
        have hu := arrOf_get H.tbl ha
        refine H.pure (v := .pointer (some ⟨b, off + j * t.size, none⟩)) ?_ (by simp [denV, den, denPtr, hb])
        unfold execOp
        simp [ho, h2, h4, Instr.indexAt, asIntOf, run_underlying hu, Instr.sureAddr, hp, sizeIs H.tbl ht, Addr.add_lit]
      · cases hx
    · cases hx
  · cases hx
def bAt (s : List UInt8) (n : Int) : Int := (s.getD n.toNat 0).toNat
def xIndex (tbl : Tbl) (ev : Evl) (T : TypeId) (x i : Operand) : Option Res :=
  match ev x, ev i with
  | some (.one (.str s)), some (.one (.int _ n)) => bif isStr tbl T then some (.eff (0 ≤ n ∧ n < s.length) ⟨.one (.int .u8 (bAt s n)), []⟩) else none
  | _, _ => none
theorem does_index (H : Here C tbl ρ S a w fr o ev m) {T : TypeId} {x i : Operand} (ho : o.op = .index T x i) {p : Prop} {e : Eff} (hx : xIndex tbl ev T x i = some (.eff p e)) (hp : p) : Does C ρ S a w fr o e := by
  unfold xIndex at hx
  split at hx
  · rename_i s kd n e1 e2
    cases hT : isStr tbl T with
    | false => rw [hT] at hx; cases hx
    | true =>
      rw [hT] at hx; cases hx
      obtain ⟨u, h1, h2⟩ := H.val e1
      obtain ⟨u', h3, h4⟩ := H.val e2
      simp only [denV, den, Option.some.injEq] at h1 h3
      subst h1; subst h3
      have hu := isStr_get H.tbl hT
      obtain ⟨p1, p2⟩ := hp
      have hlt : n.toNat < s.length := by omega
      have hsz : (⟨s.toArray⟩ : ByteArray).size = s.length := by simp [ByteArray.size]
      have hget : (⟨s.toArray⟩ : ByteArray)[n.toNat]? = some s[n.toNat] := by
        rw [getElem?_pos (⟨s.toArray⟩ : ByteArray) n.toNat (by rw [hsz]; exact hlt)]
        rfl
      refine H.pure (v := .int .u8 (bAt s n)) ?_ rfl
      unfold execOp
      simp [ho, h2, h4, Instr.index, asIntOf, run_underlying hu, p1, hget, bAt, List.getD_eq_getElem?_getD, List.getElem?_eq_getElem hlt]
  · cases hx
def bound (ev : Evl) : Option Operand → Option (Option Int)
  | none => some none
  | some x => match ev x with
    | some (.one (.int _ n)) => some (some n)
    | _ => none
def cutStr (s : List UInt8) : Option Int → Option Int → Option (Prop × List UInt8)
  | none, none => some (True, s)
  | some l, none => some (0 ≤ l ∧ l ≤ s.length, s.drop l.toNat)
  | none, some h => some (0 ≤ h ∧ h ≤ s.length, s.take h.toNat)
  | some l, some h => some (0 ≤ l ∧ l ≤ h ∧ h ≤ s.length, (s.take h.toNat).drop l.toNat)
def cutLs (s : Ls) : Option Int → Option Int → Prop × Ls
  | none, none => (True, s.cut 0 s.len)
  | some l, none => (0 ≤ l ∧ l ≤ s.len, s.cut l.toNat s.len)
  | none, some h => (0 ≤ h ∧ h ≤ s.len, s.cut 0 h.toNat)
  | some l, some h => (0 ≤ l ∧ l ≤ h ∧ h ≤ s.len, s.cut l.toNat h.toNat)
def xSlice (tbl : Tbl) (fr : Nat) (ev : Evl) (m : Mem) (T : TypeId) (x : Operand) (lo hi mx : Option Operand) : Option Res :=
  match ev x, bound ev lo, bound ev hi, mx with
  | some (.one (.str s)), some l, some h, none => bif isStr tbl T then (cutStr s l h).map fun r => .eff r.1 ⟨.one (.str r.2), []⟩ else none
  | some (.one (.slc k)), some l, some h, none =>
    match (sliceOf tbl T).bind fun e => look e tbl, m k with
    | some t, some (.read s) => bif Nat.beq t.size s.sz then some (.eff (cutLs s l h).1 ⟨.one (.slc fr), [(fr, some (.read (cutLs s l h).2))]⟩) else none
    | _, _ => none
  | _, _, _, _ => none
theorem bound_val (H : Here C tbl ρ S a w fr o ev m) {x : Option Operand} {r : Option Int} (h : bound ev x = some r) :
    (x = none ∧ r = none) ∨ (∃ y k n, x = some y ∧ r = some n ∧ a.eval y = .int k n) := by
  unfold bound at h
  split at h
  · cases h; exact .inl ⟨rfl, rfl⟩
  · split at h
    · rename_i y _ k n e
      cases h
      obtain ⟨u, h1, h2⟩ := H.val e
      simp only [denV, den, Option.some.injEq] at h1
      subst h1
      exact .inr ⟨y, k, n, rfl, rfl, h2⟩
    · cases h
/-- The bounds of a cut. -/
theorem run_bounds {P : Program} (w : World) (isS : Bool) (len cap : Nat) (hlc : len ≤ cap) (lo hi : Option (IntKind × Int)) (h1 : ∀ x, hi = some x → 0 ≤ x.2 ∧ x.2 ≤ len) (h2 : ∀ x, lo = some x → 0 ≤ x.2 ∧ x.2 ≤ ((hi.map (·.2)).getD (len : Int))) :
    (Instr.sliceBounds isS len cap (lo.map fun x => .int x.1 x.2) (hi.map fun x => .int x.1 x.2) none).run P w =
      .ok ((lo.map (·.2.toNat)).getD 0, (hi.map (·.2.toNat)).getD len, cap) w := by
  cases hi with
  | none =>
    cases lo with
    | none => rfl
    | some x =>
      have := h2 x rfl
      simp only [Option.map_none, Option.getD_none] at this
      simp [Instr.sliceBounds, Instr.sliceBound, asIntOf, this.1, this.2]
  | some y =>
    have hy := h1 y rfl
    have hyc : y.2 ≤ (cap : Int) := by omega
    cases lo with
    | none => simp [Instr.sliceBounds, Instr.sliceBound, asIntOf, hy.1, hyc]
    | some x =>
      have hx := h2 x rfl
      simp only [Option.map_some, Option.getD_some] at hx
      have : x.2 ≤ ((y.2.toNat : Nat) : Int) := by omega
      simp [Instr.sliceBounds, Instr.sliceBound, asIntOf, hy.1, hyc, hx.1, this]
      intro h; omega
theorem Sat.newRead (h : Sat C ρ S a w) (dst : Option Nat) (x : SV) (v u : Value) (l : Ls) (hfr : ρ fr = none) (h16 : 16 ≤ fr) (hd : ∀ d, dst = some d → d < C.nt) (hu1 : u.oneCell' = true) (hv : dst ≠ none → denV (ρ.set fr u) x = some v)
    (hb : SBok C ρ w u (.read l)) (hap : ∀ k b y, S.blk k = some b → b.mut = true → ρ k = some y → Apart (foot y b) (foot u (.read l))) : Sat C (ρ.set fr u) (S.upd dst ⟨x, [(fr, some (.read l))]⟩) (a.put dst v) w := by
  refine h.step (G := fun _ => False) dst _ v (Env.set_le hfr u) (Env.set_one h.one hu1) (Env.set_pin h16 u) (Fr.refl _ w) (fun _ hg => hg.elim) (fun hne _ => hv hne) hd (fun _ _ _ _ _ _ _ _ hg => hg) ?_ ?_
  · intro k b hl
    rw [look_cons] at hl
    split at hl
    · subst_vars; cases hl
      exact ⟨u, Env.set_self ρ _ u, hb⟩
    · cases hl
  · intro k b u1 k' b' u2 hl hu' hne hl2 hu2 hmm
    rw [look_cons] at hl
    split at hl
    · rename_i e
      subst e; cases hl
      rw [Env.set_self] at hu'; cases hu'
      rw [look_cons, if_neg (Ne.symm hne)] at hl2
      rcases hl2 with hl2 | ⟨_, hl2⟩
      · cases hl2
      · have hmut : b'.mut = true := by
          rcases hmm with hm | hm
          · cases hm
          · exact hm
        unfold Env.set at hu2
        rw [if_neg hne] at hu2
        exact (hap k' b' u2 hl2 hmut hu2).symm
    · cases hl
theorem does_slice (H : Here C tbl ρ S a w fr o ev m) {T : TypeId} {x : Operand} {lo hi mx : Option Operand} (ho : o.op = .slice T x lo hi mx) {p : Prop} {e : Eff} (hx : xSlice tbl fr ev m T x lo hi mx = some (.eff p e)) (hp : p) : Does C ρ S a w fr o e := by
  unfold xSlice at hx
  split at hx
  · rename_i s l h e1 e2 e3
    cases hT : isStr tbl T with
    | false => rw [hT] at hx; cases hx
    | true =>
      rw [hT] at hx
      simp only [cond_true, Option.map_eq_some_iff, Res.eff.injEq] at hx
      obtain ⟨⟨q, r⟩, g1, rfl, rfl⟩ := hx
      obtain ⟨u, h1, h2⟩ := H.val e1
      simp only [denV, den, Option.some.injEq] at h1
      subst h1
      have hu := isStr_get H.tbl hT
      have hsz : (⟨s.toArray⟩ : ByteArray).size = s.length := by simp [ByteArray.size]
      have hext : ∀ a b, (⟨s.toArray⟩ : ByteArray).extract a b = ⟨((s.drop a).take (b - a)).toArray⟩ := by
        intro a b
        have := Lib.extract_eq ⟨s.toArray⟩ a b
        simpa using this
      refine H.pure (v := .string ⟨r.toArray⟩) ?_ rfl
      have hb1 := bound_val H e2
      have hb2 := bound_val H e3
      unfold execOp
      rcases hb1 with ⟨rfl, rfl⟩ | ⟨y, k, n, rfl, rfl, hy⟩ <;> rcases hb2 with ⟨rfl, rfl⟩ | ⟨y', k', n', rfl, rfl, hy'⟩ <;> simp only [cutStr, Option.some.injEq, Prod.mk.injEq] at g1 <;> obtain ⟨rfl, rfl⟩ := g1
      · have := run_bounds (P := C.P) w false s.length s.length (Nat.le_refl _) none none (fun _ h => by cases h) (fun _ h => by cases h)
        simp only [Option.map_none] at this
        simp [ho, h2, Instr.sliceAt, Instr.slice, run_underlying hu, hsz, this, hext]
      · have := run_bounds (P := C.P) w false s.length s.length (Nat.le_refl _) none (some (k', n')) (fun _ h => by cases h; exact hp) (fun _ h => by cases h)
        simp only [Option.map_none, Option.map_some] at this
        simp [ho, h2, hy', Instr.sliceAt, Instr.slice, run_underlying hu, hsz, this, hext]
      · have := run_bounds (P := C.P) w false s.length s.length (Nat.le_refl _) (some (k, n)) none (fun _ h => by cases h) (fun _ h => by cases h; exact hp)
        simp only [Option.map_none, Option.map_some] at this
        have ht : (s.drop n.toNat).take (s.length - n.toNat) = s.drop n.toNat := List.take_of_length_le (by simp)
        simp [ho, h2, hy, Instr.sliceAt, Instr.slice, run_underlying hu, hsz, this, hext, ht]
      · have := run_bounds (P := C.P) w false s.length s.length (Nat.le_refl _) (some (k, n)) (some (k', n')) (fun _ h => by cases h; exact ⟨by omega, hp.2.2⟩) (fun _ h => by cases h; exact ⟨hp.1, hp.2.1⟩)
        simp only [Option.map_some] at this
        have ht : (s.drop n.toNat).take (n'.toNat - n.toNat) = (s.take n'.toNat).drop n.toNat := by rw [List.drop_take]
        simp [ho, h2, hy, hy', Instr.sliceAt, Instr.slice, run_underlying hu, hsz, this, hext, ht]
  · rename_i k l h e1 e2 e3
    split at hx
    · rename_i t s ht hm
      cases hc : Nat.beq t.size s.sz with
      | false => rw [hc] at hx; cases hx
      | true =>
        rw [hc] at hx; cases hx
        have hsz := Nat.eq_of_beq_eq_true hc
        simp only [Option.bind_eq_some_iff] at ht
        obtain ⟨ee, t1, t2⟩ := ht
        have hu := sliceOf_get H.tbl t1
        obtain ⟨u, h1, h2⟩ := H.val e1
        simp only [denV, den] at h1
        obtain ⟨y, hy, A, c, g1, g2, g3, g4⟩ := H.sat.mem k _ (H.mem k _ hm)
        rw [h1] at hy; cases hy
        subst g1
        -- the bounds as numbers
        have core : ∀ (lo' hi' : Option (IntKind × Int)) (ln hn : Nat), (∀ x, hi' = some x → 0 ≤ x.2 ∧ x.2 ≤ s.len) → (∀ x, lo' = some x → 0 ≤ x.2 ∧ x.2 ≤ ((hi'.map (·.2)).getD (s.len : Int))) →
            (lo'.map (·.2.toNat)).getD 0 = ln → (hi'.map (·.2.toNat)).getD s.len = hn → ln ≤ hn → hn ≤ s.len →
            lo.map a.eval = lo'.map (fun x => .int x.1 x.2) → hi.map a.eval = hi'.map (fun x => .int x.1 x.2) →
            Does C ρ S a w fr o ⟨.one (.slc fr), [(fr, some (.read (s.cut ln hn)))]⟩ := by
          intro lo' hi' ln hn b1 b2 b3 b4 b5 b6 b7 b8
          have hb := run_bounds (P := C.P) w true s.len c g2 lo' hi' b1 b2
          rw [b3, b4] at hb
          obtain ⟨c1, c2, c3⟩ := s.cut_rows ln hn
          have hlen : (s.cut ln hn).len = hn - ln := by rw [c3]; omega
          let A' : Option Addr := if c = ln then A else A.map (·.add (ln * t.size))
          have hrun : (execOp a.eval o).run C.P w = .ok (.value (.slice A' (hn - ln) (c - ln))) w := by
            unfold execOp
            simp [ho, h2, b7, b8, Instr.sliceAt, Instr.slice, run_underlying hu, hb, sizeIs H.tbl t2, A']
          have hok : SBok C ρ w (.slice A' (hn - ln) (c - ln)) (.read (s.cut ln hn)) := by
            refine ⟨A', c - ln, by rw [hlen], by rw [hlen]; omega, by rw [hlen]; omega, fun hpos => ?_⟩
            rw [hlen] at hpos
            obtain ⟨b, oo, q1, q2, q3⟩ := g4 (by omega)
            refine ⟨b, oo + ln * t.size, ?_, fun j hj => ?_, q3⟩
            · simp only [A']
              rw [if_neg (by omega), q1]
              simp [Addr.add_lit]
            · rw [hlen, c2] at hj
              have hjlt : ln * s.sz + j < s.len * s.sz := by
                have : (hn - ln) * s.sz + ln * s.sz ≤ s.len * s.sz := by rw [← Nat.add_mul]; exact Nat.mul_le_mul_right _ (by omega)
                omega
              rw [hsz, show oo + ln * s.sz + j = oo + (ln * s.sz + j) by omega, q2 _ hjlt]
              have hdiv : j = j / s.sz * s.sz + j % s.sz := by rw [Nat.mul_comm]; exact (Nat.div_add_mod j s.sz).symm
              have hmod := Nat.mod_lt j s.sz_pos
              have e1 := s.flat_get (ln + j / s.sz) (j % s.sz) hmod
              have e2 := (s.cut ln hn).flat_get (j / s.sz) (j % s.sz) (by rw [c2]; exact hmod)
              rw [c2, ← hdiv] at e2
              rw [Nat.add_mul, Nat.add_assoc, ← hdiv] at e1
              rw [e1, e2, c1, List.getElem?_drop, List.getElem?_take]
              have : ln + j / s.sz < hn := by
                have : j / s.sz < hn - ln := Nat.div_lt_of_lt_mul (by rw [Nat.mul_comm]; exact hj)
                omega
              rw [if_pos this]
          refine does_value hrun (Env.set_le H.fr0 _) (Env.set_dom (fr := fr) _ (Nat.le_refl _) (by omega)) (H.sat.newRead o.dst _ _ _ _ H.fr0 H.fr16 H.dst rfl (fun _ => by simp [denV, den, Env.set_self]) hok ?_)
          intro k' b' y' hb' hm' hy' g hg hg'
          have hne : k ≠ k' := by
            rintro rfl
            rw [H.mem k _ hm] at hb'; cases hb'; cases hm'
          refine (H.sat.apart k' k b' _ y' _ (Ne.symm hne) hb' (H.mem k _ hm) hm' hy' h1) g hg ?_
          simp only [foot] at hg' ⊢
          split at hg'
          · cases hg'
          · rename_i hpos
            rw [hlen] at hpos
            obtain ⟨b, oo, q1, q2, q3⟩ := g4 (by omega)
            rw [if_neg (by omega)]
            subst q1
            simp only [A'] at hg'
            rw [if_neg (by omega)] at hg'
            simpa [blockOf, Addr.add_lit] using hg'
        have hb1 := bound_val H e2
        have hb2 := bound_val H e3
        rcases hb1 with ⟨rfl, rfl⟩ | ⟨y1, k1, n1, rfl, rfl, hy1⟩ <;> rcases hb2 with ⟨rfl, rfl⟩ | ⟨y2, k2, n2, rfl, rfl, hy2⟩ <;> simp only [cutLs] at hp ⊢
        · exact core none none 0 s.len (fun _ h => by cases h) (fun _ h => by cases h) rfl rfl (Nat.zero_le _) (Nat.le_refl _) rfl rfl
        · exact core none (some (k2, n2)) 0 n2.toNat (fun _ h => by cases h; exact hp) (fun _ h => by cases h) rfl rfl (Nat.zero_le _) (by omega) rfl (by simp [hy2])
        · exact core (some (k1, n1)) none n1.toNat s.len (fun _ h => by cases h) (fun _ h => by cases h; exact hp) rfl rfl (by omega) (Nat.le_refl _) (by simp [hy1]) rfl
        · exact core (some (k1, n1)) (some (k2, n2)) n1.toNat n2.toNat (fun _ h => by cases h; exact ⟨by omega, hp.2.2⟩) (fun _ h => by cases h; exact ⟨hp.1, hp.2.1⟩) rfl rfl (by omega) (by omega) (by simp [hy1]) (by simp [hy2])
    · cases hx
  · cases hx
end
end Go.Proofs.YtglfkihckkjniaaGreatDoor.Vx
