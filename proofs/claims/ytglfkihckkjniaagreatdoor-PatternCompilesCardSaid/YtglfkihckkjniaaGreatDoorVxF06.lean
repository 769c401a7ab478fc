/-
VX, functions 6: affixes. No statement of the seat is proved here.
-/
import Derived.Test.YtglfkihckkjniaaGreatDoorVxF05
set_option maxRecDepth 100000
set_option linter.unusedVariables false
set_option linter.unusedSimpArgs false
namespace Go.Proofs.YtglfkihckkjniaaGreatDoor.Vx
open Go Go.RowKit

/-! ### an element of an array's value -/
def arrHook (tbl : Tbl) : Hook := fun fr o ev m =>
  match o.op with
  | .index T x i =>
    match ev x, ev i, arrOf tbl T with
    | some (.agg cs), some (.one (.int _ n)), some (c, e) =>
      match look e tbl with
      | some t => bif Nat.beq cs.length (c * t.size) then (svOf t.agg ((cs.drop (n.toNat * t.size)).take t.size)).map fun v => ([0 ≤ n ∧ n < c], ⟨v, []⟩) else none
      | none => none
    | _, _, _ => none
  | _ => none
theorem arrHook_ok {tbl : Tbl} {G : Ctx → Prop} : HookOK tbl G (arrHook tbl) := by
  intro C ρ S a w fr o ev m H hG ps e hk hp
  unfold arrHook at hk
  split at hk
  · rename_i T x i ho
    split at hk
    · rename_i cs kd n c ee hx hi ha
      split at hk
      · rename_i t ht
        cases hb : Nat.beq cs.length (c * t.size) with
        | false => rw [hb] at hk; cases hk
        | true =>
          rw [hb, cond_true, Option.map_eq_some_iff] at hk
          obtain ⟨sv, hs, hk⟩ := hk
          cases hk
          have hp : 0 ≤ n ∧ n < (c : Int) := hp
          have hlen := Nat.eq_of_beq_eq_true hb
          obtain ⟨inf, d, z, tt⟩ := tbl_get H.tbl ht
          obtain ⟨u, h1, h2⟩ := H.val hx
          obtain ⟨u', h3, h4⟩ := H.val hi
          simp only [denV, den, Option.some.injEq] at h3
          subst h3
          simp only [denV, Option.map_eq_some_iff] at h1
          obtain ⟨vs, h5, rfl⟩ := h1
          have hu := arrOf_get H.tbl ha
          have hle : n.toNat * t.size + t.size ≤ cs.length := by
            rw [hlen]
            have h6 : n.toNat + 1 ≤ c := by omega
            have := Nat.mul_le_mul_right t.size h6
            rw [Nat.add_mul] at this
            omega
          rw [← tt.agg, ← tt.size] at hs
          obtain ⟨v, h8, h9⟩ := run_part w tt.info tt.under hs h5 (by rw [tt.size]; exact hle)
          rw [tt.size] at h8
          refine H.pure (v := v) ?_ h9
          unfold execOp
          simp only [ho, Instr.index, h2, h4, Sem.run_bind, asIntOf, Sem.run_pure, run_underlying hu, Result.andThen_ok, if_pos hp, sizeIs H.tbl ht, h8]
      · cases hk
    · cases hk
  · cases hk
def miscA : Hook := orHook (arrHook T) misc
theorem miscA_ok : HookOK T (GC Tryz.prog Gl) miscA := orHook_ok arrHook_ok misc_ok
/-! ### figurehead/affix.sign, mark, Items -/
def sp_asign : FSpec := ⟨[], fun | [.one (.int .i32 r)] => some ([], .one (.int .i64 (signK r))) | _ => none⟩
theorem vc_asign (r : Int) : vcP [] [] miscA Tryz.f90 (.turns 2 6 (fun _ => .nil) .nil) [.one (.int .i32 r)] (.one (.int .i64 (signK r))) = (((0 : Int) ≤ (0 : Int) ∧ (0 : Int) < (↑(5 : Nat) : Int)) ∧ br ((45 : Int) == r) ((2 : Int) = signK r) (inR IntKind.i64 ((0 : Int) + (1 : Int)) ∧ ((0 : Int) ≤ (0 : Int) + (1 : Int) ∧ (0 : Int) + (1 : Int) < (↑(5 : Nat) : Int)) ∧ br ((43 : Int) == r) ((3 : Int) = signK r) (inR IntKind.i64 ((0 : Int) + (1 : Int) + (1 : Int)) ∧ ((0 : Int) ≤ (0 : Int) + (1 : Int) + (1 : Int) ∧ (0 : Int) + (1 : Int) + (1 : Int) < (↑(5 : Nat) : Int)) ∧ br ((37 : Int) == r) ((4 : Int) = signK r) (inR IntKind.i64 ((0 : Int) + (1 : Int) + (1 : Int) + (1 : Int)) ∧ ((0 : Int) ≤ (0 : Int) + (1 : Int) + (1 : Int) + (1 : Int) ∧ (0 : Int) + (1 : Int) + (1 : Int) + (1 : Int) < (↑(5 : Nat) : Int)) ∧ br ((8240 : Int) == r) ((5 : Int) = signK r) (inR IntKind.i64 ((0 : Int) + (1 : Int) + (1 : Int) + (1 : Int) + (1 : Int)) ∧ ((0 : Int) ≤ (0 : Int) + (1 : Int) + (1 : Int) + (1 : Int) + (1 : Int) ∧ (0 : Int) + (1 : Int) + (1 : Int) + (1 : Int) + (1 : Int) < (↑(5 : Nat) : Int)) ∧ br ((164 : Int) == r) ((6 : Int) = signK r) (inR IntKind.i64 ((0 : Int) + (1 : Int) + (1 : Int) + (1 : Int) + (1 : Int) + (1 : Int)) ∧ (0 : Int) = signK r)))))) := by kernel_rfl
set_option maxHeartbeats 4000000 in
theorem of_asign (h : ∀ (r : Int), vcP [] [] miscA Tryz.f90 (.turns 2 6 (fun _ => .nil) .nil) [.one (.int .i32 r)] (.one (.int .i64 (signK r)))) : FnP 90 sp_asign := by
  refine fnP_ok (cs := []) (cas := []) (ms := miscA) .nil .nil miscA_ok 90 Tryz.f90 (by kernel_rfl) (by kernel_rfl) (by kernel_rfl) (fun | [.one (.int .i32 r)] => .turns 2 6 (fun _ => .nil) .nil | _ => .nil) ?_
  intro pvs p r hs hp
  unfold sp_asign at hs
  simp only at hs
  split at hs
  · rename_i r
    cases hs
    refine h r
  · cases hs
theorem ok_asign : FnP 90 sp_asign := of_asign (by
  intro r
  rw [vc_asign]
  have sw : ∀ {n : Int}, ((n == r) = true) → r = n := fun h => (eq_of_beq h).symm
  have sn : ∀ {n : Int}, ((n == r) = false) → ¬ r = n := fun h h1 => by rw [h1, beq_self_eq_true] at h; cases h
  refine ⟨by decide, br_of (fun h => ?_) fun h1 => ⟨by simp only [inR]; omega, by decide, br_of (fun h => ?_) fun h2 => ⟨by simp only [inR]; omega, by decide, br_of (fun h => ?_) fun h3 => ⟨by simp only [inR]; omega, by decide, br_of (fun h => ?_) fun h4 => ⟨by simp only [inR]; omega, by decide, br_of (fun h => ?_) fun h5 => ⟨by simp only [inR]; omega, ?_⟩⟩⟩⟩⟩⟩
  · rw [sw h]; rfl
  · rw [sw h]; rfl
  · rw [sw h]; rfl
  · rw [sw h]; rfl
  · rw [sw h]; rfl
  · unfold signK
    rw [if_neg (sn h1), if_neg (sn h2), if_neg (sn h3), if_neg (sn h4), if_neg (sn h5)])
def marksC : List UInt8 := [35, 48, 49, 50, 51, 52, 53, 54, 55, 56, 57, 64, 44, 46, 59, 42]
def sp_amark : FSpec := ⟨[], fun | [.one (.int .i32 r)] => some ([], .one (.bool (isMark r))) | _ => none⟩
theorem vc_amark (r : Int) : vcP [] [] misc Tryz.f91 (.loop 2 (HR marksC r) (fun i => ⟨[(0, .one (.int .i32 r)), (5, .one (.slc 17))], [(17, some (.iter marksC i.1))], 18⟩) (fun i => 16 - i.1) (fun _ => .nil) .nil) [.one (.int .i32 r)] (.one (.bool (isMark r))) = ((∃ (x : HR marksC r), r = r ∧ (0 : Nat) = Subtype.val x ∧ ([(35 : UInt8), (48 : UInt8), (49 : UInt8), (50 : UInt8), (51 : UInt8), (52 : UInt8), (53 : UInt8), (54 : UInt8), (55 : UInt8), (56 : UInt8), (57 : UInt8), (64 : UInt8), (44 : UInt8), (46 : UInt8), (59 : UInt8), (42 : UInt8)] : List UInt8) = marksC) ∧ ∀ (x : HR marksC r), br (decide (Subtype.val x < List.length marksC)) (br (dec marksC (Subtype.val x) == r) (true = isMark r) (∃ (x' : HR marksC r), (r = r ∧ Subtype.val x + wid marksC (Subtype.val x) = Subtype.val x' ∧ marksC = marksC) ∧ (16 : Nat) - Subtype.val x' < (16 : Nat) - Subtype.val x)) (false = isMark r)) := by kernel_rfl
set_option maxHeartbeats 4000000 in
theorem of_amark (h : ∀ (r : Int), vcP [] [] misc Tryz.f91 (.loop 2 (HR marksC r) (fun i => ⟨[(0, .one (.int .i32 r)), (5, .one (.slc 17))], [(17, some (.iter marksC i.1))], 18⟩) (fun i => 16 - i.1) (fun _ => .nil) .nil) [.one (.int .i32 r)] (.one (.bool (isMark r)))) : FnP 91 sp_amark := by
  refine fnP_ok (cs := []) (cas := []) (ms := misc) .nil .nil misc_ok 91 Tryz.f91 (by kernel_rfl) (by kernel_rfl) (by kernel_rfl) (fun | [.one (.int .i32 r)] => .loop 2 (HR marksC r) (fun i => ⟨[(0, .one (.int .i32 r)), (5, .one (.slc 17))], [(17, some (.iter marksC i.1))], 18⟩) (fun i => 16 - i.1) (fun _ => .nil) .nil | _ => .nil) ?_
  intro pvs p r hs hp
  unfold sp_amark at hs
  simp only at hs
  split at hs
  · rename_i r
    cases hs
    refine h r
  · cases hs
theorem marksC_asc : Asc marksC := asc_iff.2 rfl
theorem marks_is (r : Int) : hasR marksC r = isMark r := by
  rw [Bool.eq_iff_iff]
  simp [hasR, marksC, isMark]
  omega
theorem ok_amark : FnP 91 sp_amark := of_amark (by
  intro r
  rw [vc_amark, ← marks_is]
  refine ⟨⟨⟨0, Nat.zero_le _, rfl⟩, rfl, rfl, rfl⟩, fun i => br_of (fun h => ?_) fun h => ?_⟩
  · have h : i.1 < marksC.length := of_decide_eq_true h
    obtain ⟨q1, q2⟩ := dec_asc marksC_asc h
    rw [q1, q2]
    have hl : marksC.length = 16 := rfl
    refine br_of (fun h1 => ?_) fun h1 => ⟨⟨i.1 + 1, h, by rw [hasR_next h, i.2.2, h1]; rfl⟩, ⟨rfl, rfl, rfl⟩, by show 16 - (i.1 + 1) < _; omega⟩
    rw [hasR_mem h (by simpa using h1)]
  · have h : ¬ i.1 < marksC.length := of_decide_eq_false h
    have := i.2.2
    rw [List.take_of_length_le (by omega)] at this
    rw [this])
def Itm.of (t : Tok) : Itm := if t.q = false ∧ signK t.r ≠ 0 then ⟨signK t.r, 0⟩ else ⟨1, t.r⟩
def Tok.bad (t : Tok) : Bool := !t.q && isMark t.r
def itemsL : List Tok → List Itm × Option Int
  | [] => ([], none)
  | t :: m => if t.bad then ([], some t.p) else (Itm.of t :: (itemsL m).1, (itemsL m).2)
def itemsR (l : List Tok) : List Itm × Int × Int :=
  match (itemsL l).2 with
  | some p => ([], 4, p)
  | none => if 40 < (itemsL l).1.length then ([], 8, 0) else ((itemsL l).1, 0, 0)
structure IS (l : List Tok) where
  n : Nat
  ds : List Itm
  le : n ≤ l.length
  few : ds.length ≤ n
  fin1 : ds ++ (itemsL (l.drop n)).1 = (itemsL l).1
  fin2 : (itemsL (l.drop n)).2 = (itemsL l).2
theorem Itm.lit {t : Tok} (ht : t.q = true ∨ signK t.r = 0) : Itm.of t = ⟨1, t.r⟩ := by
  unfold Itm.of
  rw [if_neg]
  rintro ⟨h1, h2⟩
  rcases ht with ht | ht
  · rw [ht] at h1; cases h1
  · exact h2 ht
theorem itemsL_ok {t : Tok} {m : List Tok} (h : t.bad = false) : itemsL (t :: m) = (Itm.of t :: (itemsL m).1, (itemsL m).2) := by
  rw [itemsL, if_neg (by rw [h]; decide)]
theorem itemsL_bad {t : Tok} {m : List Tok} (h : t.bad = true) : itemsL (t :: m) = ([], some t.p) := by
  rw [itemsL, if_pos h]
def IS.next {l : List Tok} (x : IS l) (h : x.n < l.length) (hs : (l.getD x.n default).bad = false) : IS l where
  n := x.n + 1
  ds := x.ds ++ [Itm.of (l.getD x.n default)]
  le := h
  few := by have := x.few; simp; omega
  fin1 := by
    have h1 := x.fin1
    rw [drop_next l default h, itemsL_ok hs] at h1
    rw [List.append_assoc]; exact h1
  fin2 := by
    have h1 := x.fin2
    rw [drop_next l default h, itemsL_ok hs] at h1
    exact h1
theorem IS.stop {l : List Tok} (x : IS l) (h : x.n < l.length) (hs : (l.getD x.n default).bad = true) : itemsR l = ([], 4, (l.getD x.n default).p) := by
  have h1 := x.fin2
  rw [drop_next l default h, itemsL_bad hs] at h1
  unfold itemsR
  rw [← h1]
theorem IS.done {l : List Tok} (x : IS l) (h : ¬ x.n < l.length) : itemsR l = if 40 < x.ds.length then ([], 8, 0) else (x.ds, 0, 0) := by
  have h1 := x.fin1
  have h2 := x.fin2
  rw [List.drop_of_length_le (by omega)] at h1 h2
  have h1 : x.ds ++ [] = (itemsL l).1 := h1
  have h2 : none = (itemsL l).2 := h2
  unfold itemsR
  rw [← h2, ← h1, List.append_nil]
theorem IS.fin {l : List Tok} (x : IS l) (h : ¬ x.n < l.length) : br (decide ((x.ds.length : Int) > 40)) ([] = (itemsR l).1 ∧ 8 = (itemsR l).2.1 ∧ 0 = (itemsR l).2.2) (x.ds = (itemsR l).1 ∧ 0 = (itemsR l).2.1 ∧ 0 = (itemsR l).2.2) := by
  rw [x.done h]
  refine br_of (fun h1 => ?_) fun h1 => ?_
  · have := of_decide_eq_true h1
    rw [if_pos (by omega)]; exact ⟨rfl, rfl, rfl⟩
  · have := of_decide_eq_false h1
    rw [if_neg (by omega)]; exact ⟨rfl, rfl, rfl⟩
def IS.zero (l : List Tok) : IS l := ⟨0, [], Nat.zero_le _, Nat.le_refl _, rfl, rfl⟩
def sp_aitems : FSpec := ⟨[], fun | [.one (.rd (.toks l))] => some ([l.length ≤ 1000000000], .tup [(false, [.rd (.items (itemsR l).1)]), (true, [.int .i64 (itemsR l).2.1, .int .i64 (itemsR l).2.2])]) | _ => none⟩
theorem vc_aitems (l : List Tok) : vcP [(90, sp_asign), (91, sp_amark)] [] misc Tryz.f65 (.loop 3 (IS l) (fun x => ⟨[(3, .one (.ptr 16 0)), (4, .one (.slc 17)), (8, .one (.slc 0)), (9, .one (.int .i64 l.length)), (10, .one (.int .i64 x.n))], [(0, some (.read (.toks l))), (16, some (.cells 28 [.int .i64 0, .int .i64 0])), (17, some (.row 79 (.items x.ds)))], 18⟩) (fun x => l.length - x.n) (fun _ => .nil) .nil) [.one (.rd (.toks l))] (.tup [(false, [.rd (.items (itemsR l).1)]), (true, [.int .i64 (itemsR l).2.1, .int .i64 (itemsR l).2.2])]) = ((∃ (x : IS l), (↑(List.length l) : Int) = (↑(List.length l) : Int) ∧ (0 : Int) = (↑(IS.n x) : Int) ∧ l = l ∧ (0 : Int) = (0 : Int) ∧ (0 : Int) = (0 : Int) ∧ IS.ds x = []) ∧ ∀ (x : IS l), br (decide ((↑(IS.n x) : Int) < (↑(List.length l) : Int))) (((0 : Int) ≤ (↑(IS.n x) : Int) ∧ (↑(IS.n x) : Int) < (↑(List.length l) : Int)) ∧ Int.toNat (↑(IS.n x) : Int) < List.length l ∧ br (!Tok.q (List.getD l (Int.toNat (↑(IS.n x) : Int)) default)) (br (isMark (Tok.r (List.getD l (Int.toNat (↑(IS.n x) : Int)) default))) ([] = (itemsR l).1 ∧ (4 : Int) = (itemsR l).2.1 ∧ Tok.p (List.getD l (Int.toNat (↑(IS.n x) : Int)) default) = (itemsR l).2.2) (br (!Tok.q (List.getD l (Int.toNat (↑(IS.n x) : Int)) default)) (br (signK (Tok.r (List.getD l (Int.toNat (↑(IS.n x) : Int)) default)) != (0 : Int)) ((List.length (IS.ds x) + (1 : Nat)) * (16 : Nat) ≤ (140737488355328 : Nat) ∧ inR IntKind.i64 ((↑(IS.n x) : Int) + (1 : Int)) ∧ ∃ (x' : IS l), ((↑(List.length l) : Int) = (↑(List.length l) : Int) ∧ (↑(IS.n x) : Int) + (1 : Int) = (↑(IS.n x') : Int) ∧ l = l ∧ (0 : Int) = (0 : Int) ∧ (0 : Int) = (0 : Int) ∧ IS.ds x ++ [{ k := signK (Tok.r (List.getD l (Int.toNat (↑(IS.n x) : Int)) default)), r := (0 : Int) }] = IS.ds x') ∧ List.length l - IS.n x' < List.length l - IS.n x) ((List.length (IS.ds x) + (1 : Nat)) * (16 : Nat) ≤ (140737488355328 : Nat) ∧ inR IntKind.i64 ((↑(IS.n x) : Int) + (1 : Int)) ∧ ∃ (x' : IS l), ((↑(List.length l) : Int) = (↑(List.length l) : Int) ∧ (↑(IS.n x) : Int) + (1 : Int) = (↑(IS.n x') : Int) ∧ l = l ∧ (0 : Int) = (0 : Int) ∧ (0 : Int) = (0 : Int) ∧ IS.ds x ++ [{ k := (1 : Int), r := Tok.r (List.getD l (Int.toNat (↑(IS.n x) : Int)) default) }] = IS.ds x') ∧ List.length l - IS.n x' < List.length l - IS.n x)) ((List.length (IS.ds x) + (1 : Nat)) * (16 : Nat) ≤ (140737488355328 : Nat) ∧ inR IntKind.i64 ((↑(IS.n x) : Int) + (1 : Int)) ∧ ∃ (x' : IS l), ((↑(List.length l) : Int) = (↑(List.length l) : Int) ∧ (↑(IS.n x) : Int) + (1 : Int) = (↑(IS.n x') : Int) ∧ l = l ∧ (0 : Int) = (0 : Int) ∧ (0 : Int) = (0 : Int) ∧ IS.ds x ++ [{ k := (1 : Int), r := Tok.r (List.getD l (Int.toNat (↑(IS.n x) : Int)) default) }] = IS.ds x') ∧ List.length l - IS.n x' < List.length l - IS.n x))) (br (!Tok.q (List.getD l (Int.toNat (↑(IS.n x) : Int)) default)) (br (signK (Tok.r (List.getD l (Int.toNat (↑(IS.n x) : Int)) default)) != (0 : Int)) ((List.length (IS.ds x) + (1 : Nat)) * (16 : Nat) ≤ (140737488355328 : Nat) ∧ inR IntKind.i64 ((↑(IS.n x) : Int) + (1 : Int)) ∧ ∃ (x' : IS l), ((↑(List.length l) : Int) = (↑(List.length l) : Int) ∧ (↑(IS.n x) : Int) + (1 : Int) = (↑(IS.n x') : Int) ∧ l = l ∧ (0 : Int) = (0 : Int) ∧ (0 : Int) = (0 : Int) ∧ IS.ds x ++ [{ k := signK (Tok.r (List.getD l (Int.toNat (↑(IS.n x) : Int)) default)), r := (0 : Int) }] = IS.ds x') ∧ List.length l - IS.n x' < List.length l - IS.n x) ((List.length (IS.ds x) + (1 : Nat)) * (16 : Nat) ≤ (140737488355328 : Nat) ∧ inR IntKind.i64 ((↑(IS.n x) : Int) + (1 : Int)) ∧ ∃ (x' : IS l), ((↑(List.length l) : Int) = (↑(List.length l) : Int) ∧ (↑(IS.n x) : Int) + (1 : Int) = (↑(IS.n x') : Int) ∧ l = l ∧ (0 : Int) = (0 : Int) ∧ (0 : Int) = (0 : Int) ∧ IS.ds x ++ [{ k := (1 : Int), r := Tok.r (List.getD l (Int.toNat (↑(IS.n x) : Int)) default) }] = IS.ds x') ∧ List.length l - IS.n x' < List.length l - IS.n x)) ((List.length (IS.ds x) + (1 : Nat)) * (16 : Nat) ≤ (140737488355328 : Nat) ∧ inR IntKind.i64 ((↑(IS.n x) : Int) + (1 : Int)) ∧ ∃ (x' : IS l), ((↑(List.length l) : Int) = (↑(List.length l) : Int) ∧ (↑(IS.n x) : Int) + (1 : Int) = (↑(IS.n x') : Int) ∧ l = l ∧ (0 : Int) = (0 : Int) ∧ (0 : Int) = (0 : Int) ∧ IS.ds x ++ [{ k := (1 : Int), r := Tok.r (List.getD l (Int.toNat (↑(IS.n x) : Int)) default) }] = IS.ds x') ∧ List.length l - IS.n x' < List.length l - IS.n x))) (br (decide ((↑(List.length (IS.ds x)) : Int) > (40 : Int))) ([] = (itemsR l).1 ∧ (8 : Int) = (itemsR l).2.1 ∧ (0 : Int) = (itemsR l).2.2) (IS.ds x = (itemsR l).1 ∧ (0 : Int) = (itemsR l).2.1 ∧ (0 : Int) = (itemsR l).2.2))) := by kernel_rfl
set_option maxHeartbeats 4000000 in
theorem of_aitems (h : ∀ (l : List Tok), (l.length ≤ 1000000000) → vcP [(90, sp_asign), (91, sp_amark)] [] misc Tryz.f65 (.loop 3 (IS l) (fun x => ⟨[(3, .one (.ptr 16 0)), (4, .one (.slc 17)), (8, .one (.slc 0)), (9, .one (.int .i64 l.length)), (10, .one (.int .i64 x.n))], [(0, some (.read (.toks l))), (16, some (.cells 28 [.int .i64 0, .int .i64 0])), (17, some (.row 79 (.items x.ds)))], 18⟩) (fun x => l.length - x.n) (fun _ => .nil) .nil) [.one (.rd (.toks l))] (.tup [(false, [.rd (.items (itemsR l).1)]), (true, [.int .i64 (itemsR l).2.1, .int .i64 (itemsR l).2.2])])) : FnP 65 sp_aitems := by
  refine fnP_ok (cs := [(90, sp_asign), (91, sp_amark)]) (cas := []) (ms := misc) (.cons ok_asign (.cons ok_amark .nil)) .nil misc_ok 65 Tryz.f65 (by kernel_rfl) (by kernel_rfl) (by kernel_rfl) (fun | [.one (.rd (.toks l))] => .loop 3 (IS l) (fun x => ⟨[(3, .one (.ptr 16 0)), (4, .one (.slc 17)), (8, .one (.slc 0)), (9, .one (.int .i64 l.length)), (10, .one (.int .i64 x.n))], [(0, some (.read (.toks l))), (16, some (.cells 28 [.int .i64 0, .int .i64 0])), (17, some (.row 79 (.items x.ds)))], 18⟩) (fun x => l.length - x.n) (fun _ => .nil) .nil | _ => .nil) ?_
  intro pvs p r hs hp
  unfold sp_aitems at hs
  simp only at hs
  split at hs
  · rename_i l
    cases hs
    refine h l ?_
    · exact hp
  · cases hs
theorem ok_aitems : FnP 65 sp_aitems := of_aitems (by
  intro l hl
  rw [vc_aitems]
  refine ⟨⟨.zero l, rfl, rfl, rfl, rfl, rfl, rfl⟩, fun x => br_of (fun h => ?_) fun h => x.fin (by simpa using h)⟩
  have h : x.n < l.length := by simpa using h
  have hf := x.few
  rw [Int.toNat_natCast]
  have go : ∀ (hs : (l.getD x.n default).bad = false) (y : Itm), Itm.of (l.getD x.n default) = y → (x.ds.length + 1) * 16 ≤ 140737488355328 ∧ inR .i64 ((x.n : Int) + 1) ∧ ∃ (x' : IS l), ((l.length : Int) = (l.length : Int) ∧ (x.n : Int) + 1 = (x'.n : Int) ∧ l = l ∧ (0 : Int) = 0 ∧ (0 : Int) = 0 ∧ x.ds ++ [y] = x'.ds) ∧ l.length - x'.n < l.length - x.n := fun hs y hy =>
    ⟨by omega, by simp only [inR]; omega, x.next h hs, ⟨rfl, rfl, rfl, rfl, rfl, by rw [← hy]; rfl⟩, by show l.length - (x.n + 1) < _; omega⟩
  refine ⟨⟨by omega, by omega⟩, h, br_of (fun h1 => ?_) fun h1 => ?_⟩
  · have h1 : (l.getD x.n default).q = false := by simpa using h1
    refine br_of (fun h2 => ?_) fun h2 => br_of (fun _ => br_of (fun h3 => ?_) fun h3 => ?_) fun h3 => ?_
    · have hs : (l.getD x.n default).bad = true := by unfold Tok.bad; rw [h1, h2]; rfl
      rw [x.stop h hs]; exact ⟨rfl, rfl, rfl⟩
    · refine go (by unfold Tok.bad; rw [h2, Bool.and_false]) _ ?_
      unfold Itm.of
      rw [if_pos ⟨h1, by simpa using h3⟩]
    · exact go (by unfold Tok.bad; rw [h2, Bool.and_false]) _ (Itm.lit (.inr (by simpa using h3)))
    · rw [h1] at h3; cases h3
  · have h1 : (l.getD x.n default).q = true := by simpa using h1
    refine br_of (fun h2 => by rw [h1] at h2; cases h2) fun _ => go (by unfold Tok.bad; rw [h1]; rfl) _ (Itm.lit (.inl h1)))
def sp_ritems : FSpec := ⟨[], fun | [.one (.rd (.toks l))] => some ([l.length ≤ 1000000000], .tup [(false, [.rd (.items (itemsR l).1)]), (true, [.int .i64 (itemsR l).2.1, .int .i64 (itemsR l).2.2])]) | _ => none⟩
theorem vc_ritems (l : List Tok) : vcP [(101, sp_rsign), (100, sp_rmark)] [] misc Tryz.f71 (.loop 3 (IS l) (fun x => ⟨[(0, .one (.slc 0)), (3, .one (.ptr 16 0)), (4, .one (.slc 17)), (5, .one (.int .i64 x.n))], [(0, some (.read (.toks l))), (16, some (.cells 28 [.int .i64 0, .int .i64 0])), (17, some (.row 79 (.items x.ds)))], 18⟩) (fun x => l.length - x.n) (fun _ => .nil) .nil) [.one (.rd (.toks l))] (.tup [(false, [.rd (.items (itemsR l).1)]), (true, [.int .i64 (itemsR l).2.1, .int .i64 (itemsR l).2.2])]) = ((∃ (x : IS l), (0 : Int) = (↑(IS.n x) : Int) ∧ l = l ∧ (0 : Int) = (0 : Int) ∧ (0 : Int) = (0 : Int) ∧ IS.ds x = []) ∧ ∀ (x : IS l), br (decide ((↑(IS.n x) : Int) < (↑(List.length l) : Int))) (((0 : Int) ≤ (↑(IS.n x) : Int) ∧ (↑(IS.n x) : Int) < (↑(List.length l) : Int)) ∧ Int.toNat (↑(IS.n x) : Int) < List.length l ∧ ((0 : Int) ≤ (↑(IS.n x) : Int) ∧ (↑(IS.n x) : Int) < (↑(List.length l) : Int)) ∧ Int.toNat (↑(IS.n x) : Int) < List.length l ∧ br (!Tok.q (List.getD l (Int.toNat (↑(IS.n x) : Int)) default)) (br (isMark (Tok.r (List.getD l (Int.toNat (↑(IS.n x) : Int)) default))) (((0 : Int) ≤ (↑(IS.n x) : Int) ∧ (↑(IS.n x) : Int) < (↑(List.length l) : Int)) ∧ Int.toNat (↑(IS.n x) : Int) < List.length l ∧ [] = (itemsR l).1 ∧ (4 : Int) = (itemsR l).2.1 ∧ Tok.p (List.getD l (Int.toNat (↑(IS.n x) : Int)) default) = (itemsR l).2.2) (br (decide (signK (Tok.r (List.getD l (Int.toNat (↑(IS.n x) : Int)) default)) > (0 : Int))) ((List.length (IS.ds x) + (1 : Nat)) * (16 : Nat) ≤ (140737488355328 : Nat) ∧ inR IntKind.i64 ((↑(IS.n x) : Int) + (1 : Int)) ∧ ∃ (x' : IS l), ((↑(IS.n x) : Int) + (1 : Int) = (↑(IS.n x') : Int) ∧ l = l ∧ (0 : Int) = (0 : Int) ∧ (0 : Int) = (0 : Int) ∧ IS.ds x ++ [{ k := signK (Tok.r (List.getD l (Int.toNat (↑(IS.n x) : Int)) default)), r := (0 : Int) }] = IS.ds x') ∧ List.length l - IS.n x' < List.length l - IS.n x) ((List.length (IS.ds x) + (1 : Nat)) * (16 : Nat) ≤ (140737488355328 : Nat) ∧ inR IntKind.i64 ((↑(IS.n x) : Int) + (1 : Int)) ∧ ∃ (x' : IS l), ((↑(IS.n x) : Int) + (1 : Int) = (↑(IS.n x') : Int) ∧ l = l ∧ (0 : Int) = (0 : Int) ∧ (0 : Int) = (0 : Int) ∧ IS.ds x ++ [{ k := (1 : Int), r := Tok.r (List.getD l (Int.toNat (↑(IS.n x) : Int)) default) }] = IS.ds x') ∧ List.length l - IS.n x' < List.length l - IS.n x))) ((List.length (IS.ds x) + (1 : Nat)) * (16 : Nat) ≤ (140737488355328 : Nat) ∧ inR IntKind.i64 ((↑(IS.n x) : Int) + (1 : Int)) ∧ ∃ (x' : IS l), ((↑(IS.n x) : Int) + (1 : Int) = (↑(IS.n x') : Int) ∧ l = l ∧ (0 : Int) = (0 : Int) ∧ (0 : Int) = (0 : Int) ∧ IS.ds x ++ [{ k := (1 : Int), r := Tok.r (List.getD l (Int.toNat (↑(IS.n x) : Int)) default) }] = IS.ds x') ∧ List.length l - IS.n x' < List.length l - IS.n x)) (br (decide ((↑(List.length (IS.ds x)) : Int) > (40 : Int))) ([] = (itemsR l).1 ∧ (8 : Int) = (itemsR l).2.1 ∧ (0 : Int) = (itemsR l).2.2) (IS.ds x = (itemsR l).1 ∧ (0 : Int) = (itemsR l).2.1 ∧ (0 : Int) = (itemsR l).2.2))) := by kernel_rfl
set_option maxHeartbeats 4000000 in
theorem of_ritems (h : ∀ (l : List Tok), (l.length ≤ 1000000000) → vcP [(101, sp_rsign), (100, sp_rmark)] [] misc Tryz.f71 (.loop 3 (IS l) (fun x => ⟨[(0, .one (.slc 0)), (3, .one (.ptr 16 0)), (4, .one (.slc 17)), (5, .one (.int .i64 x.n))], [(0, some (.read (.toks l))), (16, some (.cells 28 [.int .i64 0, .int .i64 0])), (17, some (.row 79 (.items x.ds)))], 18⟩) (fun x => l.length - x.n) (fun _ => .nil) .nil) [.one (.rd (.toks l))] (.tup [(false, [.rd (.items (itemsR l).1)]), (true, [.int .i64 (itemsR l).2.1, .int .i64 (itemsR l).2.2])])) : FnP 71 sp_ritems := by
  refine fnP_ok (cs := [(101, sp_rsign), (100, sp_rmark)]) (cas := []) (ms := misc) (.cons ok_rsign (.cons ok_rmark .nil)) .nil misc_ok 71 Tryz.f71 (by kernel_rfl) (by kernel_rfl) (by kernel_rfl) (fun | [.one (.rd (.toks l))] => .loop 3 (IS l) (fun x => ⟨[(0, .one (.slc 0)), (3, .one (.ptr 16 0)), (4, .one (.slc 17)), (5, .one (.int .i64 x.n))], [(0, some (.read (.toks l))), (16, some (.cells 28 [.int .i64 0, .int .i64 0])), (17, some (.row 79 (.items x.ds)))], 18⟩) (fun x => l.length - x.n) (fun _ => .nil) .nil | _ => .nil) ?_
  intro pvs p r hs hp
  unfold sp_ritems at hs
  simp only at hs
  split at hs
  · rename_i l
    cases hs
    refine h l ?_
    · exact hp
  · cases hs
theorem signK_pos (r : Int) : decide (signK r > 0) = (signK r != 0) := by
  have : 0 ≤ signK r := by unfold signK; repeat' split <;> omega
  rw [Bool.eq_iff_iff]
  simp
  omega
theorem ok_ritems : FnP 71 sp_ritems := of_ritems (by
  intro l hl
  rw [vc_ritems]
  refine ⟨⟨.zero l, rfl, rfl, rfl, rfl, rfl⟩, fun x => br_of (fun h => ?_) fun h => x.fin (by simpa using h)⟩
  have h : x.n < l.length := by simpa using h
  have hf := x.few
  rw [Int.toNat_natCast]
  have go : ∀ (hs : (l.getD x.n default).bad = false) (y : Itm), Itm.of (l.getD x.n default) = y → (x.ds.length + 1) * 16 ≤ 140737488355328 ∧ inR .i64 ((x.n : Int) + 1) ∧ ∃ (x' : IS l), ((x.n : Int) + 1 = (x'.n : Int) ∧ l = l ∧ (0 : Int) = 0 ∧ (0 : Int) = 0 ∧ x.ds ++ [y] = x'.ds) ∧ l.length - x'.n < l.length - x.n := fun hs y hy =>
    ⟨by omega, by simp only [inR]; omega, x.next h hs, ⟨rfl, rfl, rfl, rfl, by rw [← hy]; rfl⟩, by show l.length - (x.n + 1) < _; omega⟩
  have hb : (0 : Int) ≤ x.n ∧ (x.n : Int) < l.length := ⟨by omega, by omega⟩
  refine ⟨hb, h, hb, h, br_of (fun h1 => ?_) fun h1 => ?_⟩
  · have h1 : (l.getD x.n default).q = false := by simpa using h1
    rw [signK_pos]
    refine br_of (fun h2 => ⟨hb, h, ?_⟩) fun h2 => br_of (fun h3 => ?_) fun h3 => ?_
    · have hs : (l.getD x.n default).bad = true := by unfold Tok.bad; rw [h1, h2]; rfl
      rw [x.stop h hs]; exact ⟨rfl, rfl, rfl⟩
    · refine go (by unfold Tok.bad; rw [h2, Bool.and_false]) _ ?_
      unfold Itm.of
      rw [if_pos ⟨h1, by simpa using h3⟩]
    · exact go (by unfold Tok.bad; rw [h2, Bool.and_false]) _ (Itm.lit (.inr (by simpa using h3)))
  · have h1 : (l.getD x.n default).q = true := by simpa using h1
    exact go (by unfold Tok.bad; rw [h1]; rfl) _ (Itm.lit (.inl h1)))
end Go.Proofs.YtglfkihckkjniaaGreatDoor.Vx
