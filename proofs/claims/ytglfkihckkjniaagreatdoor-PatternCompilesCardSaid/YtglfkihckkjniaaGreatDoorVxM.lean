/-
VX, part M: regions whose order is open. No statement of the seat is proved here.
-/
import Derived.Test.YtglfkihckkjniaaGreatDoorVxK
set_option linter.unusedVariables false
set_option linter.unusedSimpArgs false
namespace Go.Proofs.YtglfkihckkjniaaGreatDoor.Vx
open Go Go.RowKit

def elemN (k : Nat) : List Nat → Bool
  | [] => false
  | j :: l => Nat.beq j k || elemN k l
theorem elemN_mem {k : Nat} : ∀ {l : List Nat}, elemN k l = true ↔ k ∈ l := by
  intro l
  induction l with
  | nil => simp [elemN]
  | cons j l ih =>
    simp only [elemN, Bool.or_eq_true, ih, List.mem_cons]
    constructor
    · rintro (h | h)
      · exact .inl (Nat.eq_of_beq_eq_true h).symm
      · exact .inr h
    · rintro (h | h)
      · subst h; exact .inl (Nat.beq_refl _)
      · exact .inr h
/-- One operation as it was run (none: passed over). -/
structure Tr where
  o : Oper
  rd : List Nat
  res : Option Eff
def Tr.app (S : AS) (t : Tr) : AS := match t.res with
  | some e => S.upd t.o.dst e
  | none => S.put t.o.dst (.tup [])
def Tr.keys (t : Tr) : List Nat := match t.res with
  | some e => e.mem.map (·.1)
  | none => []
def subS (S : AS) : List Tr → (Nat → Bool) → Nat → AS
  | [], _, _ => S
  | t :: l, X, i => subS (bif X i then t.app S else S) l X (i + 1)
theorem look_notin {α : Type} {k : Nat} : ∀ {l : List (Nat × α)}, k ∉ l.map (·.1) → look k l = none := by
  intro l
  induction l with
  | nil => intro _; rfl
  | cons x l ih =>
    obtain ⟨j, x⟩ := x
    intro h
    simp only [List.map_cons, List.mem_cons, not_or] at h
    rw [look_cons, if_neg (fun e => h.1 e.symm)]
    exact ih h.2
theorem look_in {α : Type} {k : Nat} : ∀ {l : List (Nat × α)}, k ∈ l.map (·.1) → ∃ x, look k l = some x := by
  intro l
  induction l with
  | nil => intro h; simp at h
  | cons x l ih =>
    obtain ⟨j, x⟩ := x
    intro h
    rw [look_cons]
    split
    · exact ⟨x, rfl⟩
    · rename_i hne
      simp only [List.map_cons, List.mem_cons] at h
      rcases h with h | h
      · exact absurd h.symm hne
      · exact ih h
theorem Tr.app_blk (S : AS) (t : Tr) (k : Nat) (h : k ∉ t.keys) : (t.app S).blk k = S.blk k := by
  unfold Tr.app
  unfold Tr.keys at h
  split
  · rename_i e he
    rw [he] at h
    rw [AS.upd_blk, look_notin h]
  · cases t.o.dst <;> rfl
theorem Tr.app_blk_in (S S' : AS) (t : Tr) (k : Nat) (h : k ∈ t.keys) : (t.app S).blk k = (t.app S').blk k := by
  unfold Tr.app
  unfold Tr.keys at h
  split
  · rename_i e he
    rw [he] at h
    obtain ⟨x, hx⟩ := look_in h
    rw [AS.upd_blk, AS.upd_blk, hx]
  · rename_i he
    rw [he] at h
    simp at h
theorem put_slot (S : AS) (dst : Option Nat) (x : SV) (d : Nat) : (S.put dst x).slot d = if dst = some d then some x else S.slot d := by
  cases dst with
  | none => simp [AS.put]
  | some e => simp only [AS.put, AS.slot, look_cons, Option.some.injEq]
theorem Tr.app_slot (S : AS) (t : Tr) (d : Nat) (h : t.o.dst ≠ some d) : (t.app S).slot d = S.slot d := by
  unfold Tr.app
  split
  · rw [AS.upd_slot, if_neg h]
  · rw [put_slot, if_neg h]
theorem Tr.app_slot_in (S S' : AS) (t : Tr) (d : Nat) (h : t.o.dst = some d) : (t.app S).slot d = (t.app S').slot d := by
  unfold Tr.app
  split
  · rw [AS.upd_slot, AS.upd_slot, if_pos h, if_pos h]
  · rw [put_slot, put_slot, if_pos h, if_pos h]
theorem subS_blk (k : Nat) : ∀ (l : List Tr) (S S' : AS) (X X' : Nat → Bool) (i : Nat), S.blk k = S'.blk k → (∀ j t, l[j]? = some t → k ∈ t.keys → X (i + j) = X' (i + j)) → (subS S l X i).blk k = (subS S' l X' i).blk k := by
  intro l
  induction l with
  | nil => intro S S' X X' i h _; exact h
  | cons t l ih =>
    intro S S' X X' i h hx
    unfold subS
    refine ih _ _ X X' (i + 1) ?_ fun j u hj hk => by
      have := hx (j + 1) u (by simpa using hj) hk
      rwa [show i + 1 + j = i + (j + 1) by omega]
    by_cases hk : k ∈ t.keys
    · have := hx 0 t (by simp) hk
      rw [Nat.add_zero] at this
      rw [← this]
      cases X i with
      | true => exact Tr.app_blk_in S S' t k hk
      | false => exact h
    · have e1 : (bif X i then t.app S else S).blk k = S.blk k := by
        cases X i with
        | true => exact Tr.app_blk S t k hk
        | false => rfl
      have e2 : (bif X' i then t.app S' else S').blk k = S'.blk k := by
        cases X' i with
        | true => exact Tr.app_blk S' t k hk
        | false => rfl
      rw [e1, e2, h]
theorem subS_slot (d : Nat) : ∀ (l : List Tr) (S S' : AS) (X X' : Nat → Bool) (i : Nat), S.slot d = S'.slot d → (∀ j t, l[j]? = some t → t.o.dst = some d → X (i + j) = X' (i + j)) → (subS S l X i).slot d = (subS S' l X' i).slot d := by
  intro l
  induction l with
  | nil => intro S S' X X' i h _; exact h
  | cons t l ih =>
    intro S S' X X' i h hx
    unfold subS
    refine ih _ _ X X' (i + 1) ?_ fun j u hj hk => by
      have := hx (j + 1) u (by simpa using hj) hk
      rwa [show i + 1 + j = i + (j + 1) by omega]
    by_cases hk : t.o.dst = some d
    · have := hx 0 t (by simp) hk
      rw [Nat.add_zero] at this
      rw [← this]
      cases X i with
      | true => exact Tr.app_slot_in S S' t d hk
      | false => exact h
    · have e1 : (bif X i then t.app S else S).slot d = S.slot d := by
        cases X i with
        | true => exact Tr.app_slot S t d hk
        | false => rfl
      have e2 : (bif X' i then t.app S' else S').slot d = S'.slot d := by
        cases X' i with
        | true => exact Tr.app_slot S' t d hk
        | false => rfl
      rw [e1, e2, h]
/-- What an operation that is listed wrote last stands. -/
theorem subS_blk_last (k : Nat) : ∀ (l : List Tr) (S : AS) (X : Nat → Bool) (i n : Nat) (t : Tr), l[n]? = some t → X (i + n) = true → k ∈ t.keys → (∀ j u, n < j → l[j]? = some u → k ∈ u.keys → X (i + j) = false) → ∀ S', (subS S l X i).blk k = (t.app S').blk k := by
  intro l
  induction l with
  | nil => intro S X i n t h; simp at h
  | cons u l ih =>
    intro S X i n t h hX hk hlast S'
    unfold subS
    cases n with
    | succ n =>
      exact ih _ X (i + 1) n t (by simpa using h) (by rwa [show i + 1 + n = i + (n + 1) by omega]) hk (fun j v hj hv hkv => by
        have := hlast (j + 1) v (by omega) (by simpa using hv) hkv
        rwa [show i + 1 + j = i + (j + 1) by omega]) S'
    | zero =>
      simp only [List.getElem?_cons_zero, Option.some.injEq] at h
      subst h
      rw [Nat.add_zero] at hX
      rw [hX, cond_true]
      rw [Tr.app_blk_in S' S u k hk]
      have : ∀ (l : List Tr) (S : AS) (i : Nat), (∀ j v, l[j]? = some v → k ∈ v.keys → X (i + j) = false) → (subS S l X i).blk k = S.blk k := by
        intro l
        induction l with
        | nil => intro S i _; rfl
        | cons v l ih2 =>
          intro S i hh
          unfold subS
          rw [ih2 _ (i + 1) fun j q hj hq => by
            have := hh (j + 1) q (by simpa using hj) hq
            rwa [show i + 1 + j = i + (j + 1) by omega]]
          by_cases hkv : k ∈ v.keys
          · have := hh 0 v (by simp) hkv
            rw [Nat.add_zero] at this
            rw [this]; rfl
          · cases X i with
            | true => exact Tr.app_blk S v k hkv
            | false => rfl
      exact this l _ (i + 1) fun j v hj hkv => by
        have := hlast (j + 1) v (by omega) (by simpa using hj) hkv
        rwa [show i + 1 + j = i + (j + 1) by omega]
theorem subS_slot_last (d : Nat) : ∀ (l : List Tr) (S : AS) (X : Nat → Bool) (i n : Nat) (t : Tr), l[n]? = some t → X (i + n) = true → t.o.dst = some d → (∀ j u, n < j → l[j]? = some u → u.o.dst = some d → X (i + j) = false) → ∀ S', (subS S l X i).slot d = (t.app S').slot d := by
  intro l
  induction l with
  | nil => intro S X i n t h; simp at h
  | cons u l ih =>
    intro S X i n t h hX hk hlast S'
    unfold subS
    cases n with
    | succ n =>
      exact ih _ X (i + 1) n t (by simpa using h) (by rwa [show i + 1 + n = i + (n + 1) by omega]) hk (fun j v hj hv hkv => by
        have := hlast (j + 1) v (by omega) (by simpa using hv) hkv
        rwa [show i + 1 + j = i + (j + 1) by omega]) S'
    | zero =>
      simp only [List.getElem?_cons_zero, Option.some.injEq] at h
      subst h
      rw [Nat.add_zero] at hX
      rw [hX, cond_true]
      rw [Tr.app_slot_in S' S u d hk]
      have : ∀ (l : List Tr) (S : AS) (i : Nat), (∀ j v, l[j]? = some v → v.o.dst = some d → X (i + j) = false) → (subS S l X i).slot d = S.slot d := by
        intro l
        induction l with
        | nil => intro S i _; rfl
        | cons v l ih2 =>
          intro S i hh
          unfold subS
          rw [ih2 _ (i + 1) fun j q hj hq => by
            have := hh (j + 1) q (by simpa using hj) hq
            rwa [show i + 1 + j = i + (j + 1) by omega]]
          by_cases hkv : v.o.dst = some d
          · have := hh 0 v (by simp) hkv
            rw [Nat.add_zero] at this
            rw [this]; rfl
          · cases X i with
            | true => exact Tr.app_slot S v d hkv
            | false => rfl
      exact this l _ (i + 1) fun j v hj hkv => by
        have := hlast (j + 1) v (by omega) (by simpa using hj) hkv
        rwa [show i + 1 + j = i + (j + 1) by omega]

/-! ### the order that must be -/
def edgeMask (acc : List Nat) : List Edge → Nat
  | [] => 0
  | e :: l => bif Region.binds .any e then (1 <<< e.on) ||| (acc.getD e.on 0) ||| edgeMask acc l else edgeMask acc l
def masks : List Oper → List Nat → List Nat
  | [], acc => acc
  | o :: l, acc => masks l (acc ++ [edgeMask acc o.after.toList])
def backOK : List Oper → Nat → Bool
  | [], _ => true
  | o :: l, i => o.after.toList.all (fun e => !Region.binds .any e || Nat.blt e.on i) && backOK l (i + 1)
def tmpsOf : List Operand → List Nat
  | [] => []
  | .tmp t :: l => t :: tmpsOf l
  | _ :: l => tmpsOf l
/-- The slots that an operation looks at. -/
def seesOf (all : List Oper) (o : Oper) : List Nat :=
  match o.guard with
  | some (j, _) => match (all[j]?).bind (·.dst) with
    | some d => d :: tmpsOf o.op.operands.toList
    | none => tmpsOf o.op.operands.toList
  | none => tmpsOf o.op.operands.toList
def meetSlot (d : Option Nat) (l : List Nat) : Bool := match d with | some d => elemN d l | none => false
def meetAny (a b : List Nat) : Bool := a.any fun k => elemN k b
def sameDst (a b : Option Nat) : Bool := match a, b with | some x, some y => Nat.beq x y | _, _ => false
def clash (all : List Oper) (t u : Tr) : Bool :=
  meetSlot t.o.dst (seesOf all u.o) || meetSlot u.o.dst (seesOf all t.o) || sameDst t.o.dst u.o.dst || meetAny t.keys u.rd || meetAny t.keys u.keys || meetAny u.keys t.rd
/-- Does all that clashes with the operation of number j, and stands ahead of it, come ahead of it? -/
def indep1 (all : List Oper) (mask : Nat) (u : Tr) : List Tr → Nat → Bool
  | [], _ => true
  | t :: l, i => (!clash all t u || Nat.testBit mask i) && indep1 all mask u l (i + 1)
def indep (all : List Oper) (ms : List Nat) : List Tr → Nat → List Tr → Bool
  | _, _, [] => true
  | done, j, u :: l => indep1 all (ms.getD j 0) u done 0 && indep all ms (done ++ [u]) (j + 1) l
theorem indep1_get {all : List Oper} {mask : Nat} {u : Tr} : ∀ {l : List Tr} {i : Nat}, indep1 all mask u l i = true → ∀ j t, l[j]? = some t → clash all t u = true → Nat.testBit mask (i + j) = true := by
  intro l
  induction l with
  | nil => intro i _ j t h; simp at h
  | cons v l ih =>
    intro i h j t hj hc
    simp only [indep1, Bool.and_eq_true, Bool.or_eq_true, Bool.not_eq_true'] at h
    cases j with
    | zero =>
      simp only [List.getElem?_cons_zero, Option.some.injEq] at hj
      subst hj
      rw [Nat.add_zero]
      rcases h.1 with h1 | h1
      · rw [hc] at h1; cases h1
      · exact h1
    | succ j =>
      have := ih h.2 j t (by simpa using hj) hc
      rwa [show i + 1 + j = i + (j + 1) by omega] at this
theorem indep_get {all : List Oper} {ms : List Nat} : ∀ {l done : List Tr} {j : Nat}, done.length = j → indep all ms done j l = true → ∀ i n t u, i < n → (done ++ l)[i]? = some t → (done ++ l)[n]? = some u → j ≤ n → clash all t u = true → Nat.testBit (ms.getD n 0) i = true := by
  intro l
  induction l with
  | nil =>
    intro done j hd _ i n t u hin _ hu hn _
    rw [List.append_nil] at hu
    have := (List.getElem?_eq_some_iff.1 hu).1
    omega
  | cons v l ih =>
    intro done j hd h i n t u hin ht hu hn hc
    simp only [indep, Bool.and_eq_true] at h
    by_cases hnj : n = j
    · subst hnj
      rw [List.getElem?_append_right (by omega), hd, Nat.sub_self, List.getElem?_cons_zero, Option.some.injEq] at hu
      subst hu
      rw [List.getElem?_append_left (by omega)] at ht
      have := indep1_get h.1 i t ht hc
      rwa [Nat.zero_add] at this
    · have e : done ++ v :: l = (done ++ [v]) ++ l := by simp
      rw [e] at ht hu
      exact ih (by simp [hd]) h.2 i n t u hin ht hu (by omega) hc
theorem edgeMask_bit {acc : List Nat} {i : Nat} : ∀ {l : List Edge}, Nat.testBit (edgeMask acc l) i = true → ∃ e ∈ l, Region.binds .any e = true ∧ (e.on = i ∨ Nat.testBit (acc.getD e.on 0) i = true) := by
  intro l
  induction l with
  | nil => intro h; simp [edgeMask] at h
  | cons e l ih =>
    intro h
    unfold edgeMask at h
    cases hb : Region.binds .any e with
    | false =>
      rw [hb, cond_false] at h
      obtain ⟨e', h1, h2⟩ := ih h
      exact ⟨e', List.mem_cons_of_mem _ h1, h2⟩
    | true =>
      rw [hb, cond_true, Nat.testBit_or, Nat.testBit_or, Bool.or_eq_true, Bool.or_eq_true] at h
      rcases h with (h | h) | h
      · refine ⟨e, List.mem_cons_self .., hb, .inl ?_⟩
        rw [Nat.one_shiftLeft, Nat.testBit_two_pow] at h
        simpa using h
      · exact ⟨e, List.mem_cons_self .., hb, .inr h⟩
      · obtain ⟨e', h1, h2⟩ := ih h
        exact ⟨e', List.mem_cons_of_mem _ h1, h2⟩
theorem masks_get : ∀ (l : List Oper) (acc : List Nat) (j : Nat), (∀ q, q < acc.length → (masks l acc).getD q 0 = acc.getD q 0) ∧
    (∀ o, l[j]? = some o → ∃ acc', (∀ q, q < acc.length + j → acc'.getD q 0 = (masks l acc).getD q 0) ∧ (masks l acc).getD (acc.length + j) 0 = edgeMask acc' o.after.toList ∧ acc'.length = acc.length + j) := by
  intro l
  induction l with
  | nil => intro acc j; exact ⟨fun _ _ => rfl, fun o h => by simp at h⟩
  | cons o l ih =>
    intro acc j
    have key := fun j => ih (acc ++ [edgeMask acc o.after.toList]) j
    have hpre : ∀ q, q < acc.length → (masks (o :: l) acc).getD q 0 = acc.getD q 0 := by
      intro q hq
      show (masks l _).getD q 0 = _
      rw [(key 0).1 q (by simp; omega)]
      simp [List.getD_eq_getElem?_getD, List.getElem?_append_left hq]
    refine ⟨hpre, fun u hu => ?_⟩
    cases j with
    | zero =>
      simp only [List.getElem?_cons_zero, Option.some.injEq] at hu
      subst hu
      refine ⟨acc, fun q hq => (hpre q hq).symm, ?_, rfl⟩
      show (masks l _).getD _ 0 = _
      rw [(key 0).1 (acc.length + 0) (by simp)]
      simp [List.getD_eq_getElem?_getD]
    | succ j =>
      obtain ⟨acc', h1, h2, h3⟩ := (key j).2 u (by simpa using hu)
      simp only [List.length_append, List.length_cons, List.length_nil] at h1 h2 h3
      exact ⟨acc', fun q hq => h1 q (by omega), by rw [show acc.length + (j + 1) = acc.length + (0 + 1) + j by omega]; exact h2, by omega⟩
def ClosedX (ops : List Oper) (X : Nat → Bool) : Prop := ∀ j o, ops[j]? = some o → X j = true → ∀ e ∈ o.after.toList, Region.binds .any e = true → X e.on = true
theorem path_in {ops : List Oper} {X : Nat → Bool} (hX : ClosedX ops X) (hb : backOK ops 0 = true) : ∀ (j : Nat) (o : Oper), ops[j]? = some o → (∀ e ∈ o.after.toList, Region.binds .any e = true → X e.on = true) → ∀ i, Nat.testBit ((masks ops []).getD j 0) i = true → X i = true := by
  have back : ∀ (l : List Oper) (i j : Nat) (o : Oper), backOK l i = true → l[j]? = some o → ∀ e ∈ o.after.toList, Region.binds .any e = true → e.on < i + j := by
    intro l
    induction l with
    | nil => intro i j o _ h; simp at h
    | cons v l ih =>
      intro i j o h hj e he hbe
      simp only [backOK, Bool.and_eq_true] at h
      cases j with
      | zero =>
        simp only [List.getElem?_cons_zero, Option.some.injEq] at hj
        subst hj
        have := List.all_eq_true.1 h.1 e he
        rw [hbe] at this
        simpa [Nat.blt_eq] using this
      | succ j =>
        have := ih (i + 1) j o h.2 (by simpa using hj) e he hbe
        omega
  intro j
  induction j using Nat.strongRecOn with
  | _ j ih =>
    intro o ho hpre i hbit
    obtain ⟨acc', h1, h2, h3⟩ := (masks_get ops [] j).2 o ho
    simp only [List.length_nil, Nat.zero_add] at h1 h2 h3
    rw [h2] at hbit
    obtain ⟨e, he, hbe, hcase⟩ := edgeMask_bit hbit
    have hlt := back ops 0 j o hb ho e he hbe
    rw [Nat.zero_add] at hlt
    have hXe := hpre e he hbe
    rcases hcase with rfl | hbit'
    · exact hXe
    · rw [h1 e.on hlt] at hbit'
      have hol : e.on < ops.length := by
        have := (List.getElem?_eq_some_iff.1 ho).1
        omega
      exact ih e.on hlt ops[e.on] (List.getElem?_eq_getElem hol) (fun e' he' hb' => hX e.on _ (List.getElem?_eq_getElem hol) hXe e' he' hb') i hbit'
end Go.Proofs.YtglfkihckkjniaaGreatDoor.Vx
