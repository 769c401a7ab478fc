/-
VX, functions 17: the reference's small functions of texts. No statement of the seat is proved here.
-/
import Derived.Test.YtglfkihckkjniaaGreatDoorVxF16
set_option maxRecDepth 100000
set_option linter.unusedVariables false
set_option linter.unusedSimpArgs false
namespace Go.Proofs.YtglfkihckkjniaaGreatDoor.Vx
open Go Go.RowKit
/-! ### figureheadref13.cut -/
def cutI (c : Int) : List UInt8 → List UInt8 × List UInt8 × Bool
  | [] => ([], [], false)
  | x :: l => if (x.toNat : Int) = c then ([], l, true) else (x :: (cutI c l).1, (cutI c l).2.1, (cutI c l).2.2)
def CI (c : Int) (s : List UInt8) : Type := {i : Nat // i ≤ s.length ∧ cutI c s = (s.take i ++ (cutI c (s.drop i)).1, (cutI c (s.drop i)).2.1, (cutI c (s.drop i)).2.2)}
def sp_r3cut : FSpec := ⟨[], fun | [.one (.str s), .one (.int .u8 c)] => some ([s.length ≤ 1000000000000], .tup [(false, [.str (cutI c s).1]), (false, [.str (cutI c s).2.1]), (false, [.bool (cutI c s).2.2])]) | _ => none⟩
theorem vc_r3cut (s : List UInt8) (c : Int) : vcP [] [] misc Tryz.f40 (.loop 2 (CI c s) (fun i => ⟨[(0, .one (.str s)), (1, .one (.int .u8 c)), (7, .one (.int .i64 i.1))], [], 16⟩) (fun i => s.length - i.1) (fun _ => .nil) .nil) [.one (.str s), .one (.int .u8 c)] (.tup [(false, [.str (cutI c s).1]), (false, [.str (cutI c s).2.1]), (false, [.bool (cutI c s).2.2])]) = ((∃ (x : CI c s), s = s ∧ c = c ∧ (0 : Int) = (↑(Subtype.val x) : Int)) ∧ ∀ (x : CI c s), br (decide ((↑(Subtype.val x) : Int) < (↑(List.length s) : Int))) (((0 : Int) ≤ (↑(Subtype.val x) : Int) ∧ (↑(Subtype.val x) : Int) < (↑(List.length s) : Int)) ∧ br (bAt s (↑(Subtype.val x) : Int) == c) (((0 : Int) ≤ (↑(Subtype.val x) : Int) ∧ (↑(Subtype.val x) : Int) ≤ (↑(List.length s) : Int)) ∧ inR IntKind.i64 ((↑(Subtype.val x) : Int) + (1 : Int)) ∧ ((0 : Int) ≤ (↑(Subtype.val x) : Int) + (1 : Int) ∧ (↑(Subtype.val x) : Int) + (1 : Int) ≤ (↑(List.length s) : Int)) ∧ List.take (Int.toNat (↑(Subtype.val x) : Int)) s = (cutI c s).1 ∧ List.drop (Int.toNat ((↑(Subtype.val x) : Int) + (1 : Int))) s = (cutI c s).2.1 ∧ true = (cutI c s).2.2) (inR IntKind.i64 ((↑(Subtype.val x) : Int) + (1 : Int)) ∧ ∃ (x' : CI c s), (s = s ∧ c = c ∧ (↑(Subtype.val x) : Int) + (1 : Int) = (↑(Subtype.val x') : Int)) ∧ List.length s - Subtype.val x' < List.length s - Subtype.val x)) (s = (cutI c s).1 ∧ Array.toList #[] = (cutI c s).2.1 ∧ false = (cutI c s).2.2)) := by kernel_rfl
set_option maxHeartbeats 4000000 in
theorem of_r3cut (h : ∀ (s : List UInt8) (c : Int), (s.length ≤ 1000000000000) → vcP [] [] misc Tryz.f40 (.loop 2 (CI c s) (fun i => ⟨[(0, .one (.str s)), (1, .one (.int .u8 c)), (7, .one (.int .i64 i.1))], [], 16⟩) (fun i => s.length - i.1) (fun _ => .nil) .nil) [.one (.str s), .one (.int .u8 c)] (.tup [(false, [.str (cutI c s).1]), (false, [.str (cutI c s).2.1]), (false, [.bool (cutI c s).2.2])])) : FnP 40 sp_r3cut := by
  refine fnP_ok (cs := []) (cas := []) (ms := misc) .nil .nil misc_ok 40 Tryz.f40 (by kernel_rfl) (by kernel_rfl) (by kernel_rfl) (fun | [.one (.str s), .one (.int .u8 c)] => .loop 2 (CI c s) (fun i => ⟨[(0, .one (.str s)), (1, .one (.int .u8 c)), (7, .one (.int .i64 i.1))], [], 16⟩) (fun i => s.length - i.1) (fun _ => .nil) .nil | _ => .nil) ?_
  intro pvs p r hs hp
  unfold sp_r3cut at hs
  simp only at hs
  split at hs
  · rename_i s c
    cases hs
    refine h s c ?_
    · exact hp
  · cases hs
/-! ### figureheadref13.count -/
def isC (k : Int) (x : UInt8) : Bool := ((x.toNat : Int) == k) || ((k == 48) && decide ((x.toNat : Int) ≥ 48) && decide ((x.toNat : Int) ≤ 57))
def cntC (k : Int) (s : List UInt8) : Nat := s.countP (isC k)
def sp_r3count : FSpec := ⟨[], fun | [.one (.str s), .one (.int .u8 c)] => some ([s.length ≤ 1000000000000], .one (.int .i64 (cntC c s))) | _ => none⟩
theorem vc_r3count (s : List UInt8) (c : Int) : vcP [] [] misc Tryz.f42 (.loop 3 (Upto s) (fun i => ⟨[(0, .one (.str s)), (1, .one (.int .u8 c)), (5, .one (.int .i64 (cntC c (s.take i.1)))), (6, .one (.int .i64 i.1))], [], 16⟩) (fun i => s.length - i.1) (fun _ => .nil) .nil) [.one (.str s), .one (.int .u8 c)] (.one (.int .i64 (cntC c s))) = ((∃ (x : Upto s), s = s ∧ c = c ∧ (0 : Int) = (↑(cntC c (List.take (Subtype.val x) s)) : Int) ∧ (0 : Int) = (↑(Subtype.val x) : Int)) ∧ ∀ (x : Upto s), br (decide ((↑(Subtype.val x) : Int) < (↑(List.length s) : Int))) (((0 : Int) ≤ (↑(Subtype.val x) : Int) ∧ (↑(Subtype.val x) : Int) < (↑(List.length s) : Int)) ∧ br (bAt s (↑(Subtype.val x) : Int) == c) (inR IntKind.i64 ((↑(cntC c (List.take (Subtype.val x) s)) : Int) + (1 : Int)) ∧ inR IntKind.i64 ((↑(Subtype.val x) : Int) + (1 : Int)) ∧ ∃ (x' : Upto s), (s = s ∧ c = c ∧ (↑(cntC c (List.take (Subtype.val x) s)) : Int) + (1 : Int) = (↑(cntC c (List.take (Subtype.val x') s)) : Int) ∧ (↑(Subtype.val x) : Int) + (1 : Int) = (↑(Subtype.val x') : Int)) ∧ List.length s - Subtype.val x' < List.length s - Subtype.val x) (br (c == (48 : Int)) (((0 : Int) ≤ (↑(Subtype.val x) : Int) ∧ (↑(Subtype.val x) : Int) < (↑(List.length s) : Int)) ∧ br (decide (bAt s (↑(Subtype.val x) : Int) ≥ (48 : Int))) (((0 : Int) ≤ (↑(Subtype.val x) : Int) ∧ (↑(Subtype.val x) : Int) < (↑(List.length s) : Int)) ∧ br (decide (bAt s (↑(Subtype.val x) : Int) ≤ (57 : Int))) (inR IntKind.i64 ((↑(cntC c (List.take (Subtype.val x) s)) : Int) + (1 : Int)) ∧ inR IntKind.i64 ((↑(Subtype.val x) : Int) + (1 : Int)) ∧ ∃ (x' : Upto s), (s = s ∧ c = c ∧ (↑(cntC c (List.take (Subtype.val x) s)) : Int) + (1 : Int) = (↑(cntC c (List.take (Subtype.val x') s)) : Int) ∧ (↑(Subtype.val x) : Int) + (1 : Int) = (↑(Subtype.val x') : Int)) ∧ List.length s - Subtype.val x' < List.length s - Subtype.val x) (inR IntKind.i64 ((↑(Subtype.val x) : Int) + (1 : Int)) ∧ ∃ (x' : Upto s), (s = s ∧ c = c ∧ (↑(cntC c (List.take (Subtype.val x) s)) : Int) = (↑(cntC c (List.take (Subtype.val x') s)) : Int) ∧ (↑(Subtype.val x) : Int) + (1 : Int) = (↑(Subtype.val x') : Int)) ∧ List.length s - Subtype.val x' < List.length s - Subtype.val x)) (inR IntKind.i64 ((↑(Subtype.val x) : Int) + (1 : Int)) ∧ ∃ (x' : Upto s), (s = s ∧ c = c ∧ (↑(cntC c (List.take (Subtype.val x) s)) : Int) = (↑(cntC c (List.take (Subtype.val x') s)) : Int) ∧ (↑(Subtype.val x) : Int) + (1 : Int) = (↑(Subtype.val x') : Int)) ∧ List.length s - Subtype.val x' < List.length s - Subtype.val x)) (inR IntKind.i64 ((↑(Subtype.val x) : Int) + (1 : Int)) ∧ ∃ (x' : Upto s), (s = s ∧ c = c ∧ (↑(cntC c (List.take (Subtype.val x) s)) : Int) = (↑(cntC c (List.take (Subtype.val x') s)) : Int) ∧ (↑(Subtype.val x) : Int) + (1 : Int) = (↑(Subtype.val x') : Int)) ∧ List.length s - Subtype.val x' < List.length s - Subtype.val x))) ((↑(cntC c (List.take (Subtype.val x) s)) : Int) = (↑(cntC c s) : Int))) := by kernel_rfl
set_option maxHeartbeats 4000000 in
theorem of_r3count (h : ∀ (s : List UInt8) (c : Int), (s.length ≤ 1000000000000) → vcP [] [] misc Tryz.f42 (.loop 3 (Upto s) (fun i => ⟨[(0, .one (.str s)), (1, .one (.int .u8 c)), (5, .one (.int .i64 (cntC c (s.take i.1)))), (6, .one (.int .i64 i.1))], [], 16⟩) (fun i => s.length - i.1) (fun _ => .nil) .nil) [.one (.str s), .one (.int .u8 c)] (.one (.int .i64 (cntC c s)))) : FnP 42 sp_r3count := by
  refine fnP_ok (cs := []) (cas := []) (ms := misc) .nil .nil misc_ok 42 Tryz.f42 (by kernel_rfl) (by kernel_rfl) (by kernel_rfl) (fun | [.one (.str s), .one (.int .u8 c)] => .loop 3 (Upto s) (fun i => ⟨[(0, .one (.str s)), (1, .one (.int .u8 c)), (5, .one (.int .i64 (cntC c (s.take i.1)))), (6, .one (.int .i64 i.1))], [], 16⟩) (fun i => s.length - i.1) (fun _ => .nil) .nil | _ => .nil) ?_
  intro pvs p r hs hp
  unfold sp_r3count at hs
  simp only at hs
  split at hs
  · rename_i s c
    cases hs
    refine h s c ?_
    · exact hp
  · cases hs
theorem bAt_nat (s : List UInt8) (i : Nat) : bAt s (i : Int) = ((s.getD i 0).toNat : Int) := by
  unfold bAt; rw [Int.toNat_natCast]
theorem cntC_next (c : Int) (s : List UInt8) {i : Nat} (h : i < s.length) : cntC c (s.take (i + 1)) = cntC c (s.take i) + if isC c (s.getD i 0) = true then 1 else 0 := by
  unfold cntC
  rw [take_next s 0 h, List.countP_append, List.countP_singleton]
theorem cntC_le (c : Int) (s : List UInt8) : cntC c s ≤ s.length := List.countP_le_length
theorem ok_r3count : FnP 42 sp_r3count := of_r3count (by
  intro s c hs
  rw [vc_r3count]
  refine ⟨⟨⟨0, Nat.zero_le _⟩, by and_intros <;> rfl⟩, fun x => ?_⟩
  have hx := x.2
  have hl := cntC_le c (s.take x.1)
  have hl2 : (s.take x.1).length ≤ s.length := by rw [List.length_take]; omega
  refine br_of (fun h => ?_) fun h => ?_
  · have h : x.1 < s.length := by simpa using h
    have hn := cntC_next c s h
    rw [bAt_nat]
    have yes : isC c (s.getD x.1 0) = true → ∃ x' : Upto s, (s = s ∧ c = c ∧ ((cntC c (s.take x.1) : Nat) : Int) + 1 = (cntC c (s.take x'.1) : Nat) ∧ (x.1 : Int) + 1 = (x'.1 : Nat)) ∧ s.length - x'.1 < s.length - x.1 := fun hy => by
      rw [if_pos hy] at hn
      exact ⟨⟨x.1 + 1, h⟩, ⟨rfl, rfl, by show _ = ((cntC c (s.take (x.1 + 1)) : Nat) : Int); omega, rfl⟩, by show s.length - (x.1 + 1) < _; omega⟩
    have no : isC c (s.getD x.1 0) = false → ∃ x' : Upto s, (s = s ∧ c = c ∧ ((cntC c (s.take x.1) : Nat) : Int) = (cntC c (s.take x'.1) : Nat) ∧ (x.1 : Int) + 1 = (x'.1 : Nat)) ∧ s.length - x'.1 < s.length - x.1 := fun hy => by
      rw [if_neg (by rw [hy]; decide)] at hn
      exact ⟨⟨x.1 + 1, h⟩, ⟨rfl, rfl, by show _ = ((cntC c (s.take (x.1 + 1)) : Nat) : Int); omega, rfl⟩, by show s.length - (x.1 + 1) < _; omega⟩
    have i1 : inR .i64 ((x.1 : Int) + 1) := by simp only [inR]; omega
    have i2 : inR .i64 (((cntC c (s.take x.1) : Nat) : Int) + 1) := by simp only [inR]; omega
    refine ⟨⟨by omega, by omega⟩, br_of (fun h1 => ⟨i2, i1, yes (by unfold isC; rw [h1]; rfl)⟩) fun h1 => br_of (fun h2 => ⟨⟨by omega, by omega⟩, br_of (fun h3 => ⟨⟨by omega, by omega⟩, br_of (fun h4 => ⟨i2, i1, yes (by unfold isC; rw [h1, h2, h3, h4]; rfl)⟩) fun h4 => ⟨i1, no (by unfold isC; rw [h1, h2, h3, h4]; rfl)⟩⟩) fun h3 => ⟨i1, no (by unfold isC; rw [h1, h2, h3]; rfl)⟩⟩) fun h2 => ⟨i1, no (by unfold isC; rw [h1, h2]; rfl)⟩⟩
  · have h : ¬ x.1 < s.length := by simpa using h
    rw [List.take_of_length_le (by omega)])
/-! ### figureheadref13.Strip -/
def ST (s : List UInt8) : Type := {t : List UInt8 // t.length ≤ s.length ∧ dropP (· == 48) t = dropP (· == 48) s}
def sp_r3strip : FSpec := ⟨[], fun | [.one (.str s)] => some ([s.length ≤ 1000000000000], .one (.str (dropP (· == 48) s))) | _ => none⟩
theorem vc_r3strip (s : List UInt8) : vcP [] [] misc Tryz.f41 (.loop 1 (ST s) (fun t => ⟨[(0, .one (.str t.1))], [], 16⟩) (fun t => t.1.length) (fun _ => .nil) .nil) [.one (.str s)] (.one (.str (dropP (· == 48) s))) = ((∃ (x : ST s), s = Subtype.val x) ∧ ∀ (x : ST s), br (decide ((↑(List.length (Subtype.val x)) : Int) > (0 : Int))) (((0 : Int) ≤ (0 : Int) ∧ (0 : Int) < (↑(List.length (Subtype.val x)) : Int)) ∧ br (bAt (Subtype.val x) (0 : Int) == (48 : Int)) (((0 : Int) ≤ (1 : Int) ∧ (1 : Int) ≤ (↑(List.length (Subtype.val x)) : Int)) ∧ ∃ (x' : ST s), List.drop (Int.toNat (1 : Int)) (Subtype.val x) = Subtype.val x' ∧ List.length (Subtype.val x') < List.length (Subtype.val x)) (Subtype.val x = dropP (fun (x : Int) => x == (48 : Int)) s)) (Subtype.val x = dropP (fun (x : Int) => x == (48 : Int)) s)) := by kernel_rfl
set_option maxHeartbeats 4000000 in
theorem of_r3strip (h : ∀ (s : List UInt8), (s.length ≤ 1000000000000) → vcP [] [] misc Tryz.f41 (.loop 1 (ST s) (fun t => ⟨[(0, .one (.str t.1))], [], 16⟩) (fun t => t.1.length) (fun _ => .nil) .nil) [.one (.str s)] (.one (.str (dropP (· == 48) s)))) : FnP 41 sp_r3strip := by
  refine fnP_ok (cs := []) (cas := []) (ms := misc) .nil .nil misc_ok 41 Tryz.f41 (by kernel_rfl) (by kernel_rfl) (by kernel_rfl) (fun | [.one (.str s)] => .loop 1 (ST s) (fun t => ⟨[(0, .one (.str t.1))], [], 16⟩) (fun t => t.1.length) (fun _ => .nil) .nil | _ => .nil) ?_
  intro pvs p r hs hp
  unfold sp_r3strip at hs
  simp only at hs
  split at hs
  · rename_i s
    cases hs
    refine h s ?_
    · exact hp
  · cases hs
/-! ### figureheadref13.rows -/
def dropC (k : Int) (s : List UInt8) : List UInt8 := s.dropWhile (isC k)
/-- What is left behind the sorts from the k-th on. -/
def rowsF (a b c : Int) (k : Nat) (s : List UInt8) : List UInt8 :=
  match k with
  | 0 => dropC c (dropC b (dropC a s))
  | 1 => dropC c (dropC b s)
  | 2 => dropC c s
  | _ => s
def RW (a b c : Int) (s : List UInt8) : Type := {p : Nat × Nat // p.1 ≤ s.length ∧ p.2 ≤ 2 ∧ rowsF a b c p.2 (s.drop p.1) = rowsF a b c 0 s}
def RI (a b c : Int) (s : List UInt8) (i : Nat) : Type := {k : Nat // i < s.length ∧ k ≤ 3 ∧ rowsF a b c k (s.drop i) = rowsF a b c 0 s}
def sp_r3rows : FSpec := ⟨[], fun | [.one (.str s), .one (.int .u8 a), .one (.int .u8 b), .one (.int .u8 c)] => some ([s.length ≤ 1000000000000, (0 ≤ a ∧ a < 256) ∧ (0 ≤ b ∧ b < 256) ∧ (0 ≤ c ∧ c < 256)], .one (.bool (decide (rowsF a b c 0 s = [])))) | _ => none⟩
theorem vc_r3rows (s : List UInt8) (a b c : Int) : vcP [(42, sp_r3count)] [] miscL Tryz.f43 (.loop 4 (RW a b c s) (fun p => ⟨[(0, .one (.str s)), (9, .one (.slc 16)), (10, .one (.int .i64 p.1.2)), (11, .one (.int .i64 p.1.1))], [(16, some (.row 5 (.ints .u8 [a, b, c])))], 17⟩) (fun p => s.length - p.1.1) (fun p => .loop 6 (RI a b c s p.1.1) (fun k => ⟨[(0, .one (.str s)), (9, .one (.slc 16)), (10, .one (.int .i64 k.1)), (11, .one (.int .i64 p.1.1))], [(16, some (.row 5 (.ints .u8 [a, b, c])))], 17⟩) (fun k => 3 - k.1) (fun _ => .nil) .nil) .nil) [.one (.str s), .one (.int .u8 a), .one (.int .u8 b), .one (.int .u8 c)] (.one (.bool (decide (rowsF a b c 0 s = [])))) = ((∃ (x : RW a b c s), s = s ∧ (0 : Int) = (↑(Subtype.val x).2 : Int) ∧ (0 : Int) = (↑(Subtype.val x).1 : Int) ∧ [] ++ [a] ++ [b] ++ [c] = [a, b, c]) ∧ ∀ (x : RW a b c s), br (decide ((↑(Subtype.val x).1 : Int) < (↑(List.length s) : Int))) ((∃ (x_1 : RI a b c s (Prod.fst (Subtype.val x))), s = s ∧ (↑(Subtype.val x).2 : Int) = (↑(Subtype.val x_1) : Int) ∧ (↑(Subtype.val x).1 : Int) = (↑(Subtype.val x).1 : Int) ∧ [a, b, c] = [a, b, c]) ∧ ∀ (x_1 : RI a b c s (Prod.fst (Subtype.val x))), br (decide ((↑(Subtype.val x_1) : Int) < (3 : Int))) (inR IntKind.i64 ((↑(Subtype.val x).1 : Int) + (1 : Int)) ∧ ((0 : Int) ≤ (↑(Subtype.val x).1 : Int) ∧ (↑(Subtype.val x).1 : Int) ≤ (↑(Subtype.val x).1 : Int) + (1 : Int) ∧ (↑(Subtype.val x).1 : Int) + (1 : Int) ≤ (↑(List.length s) : Int)) ∧ ((0 : Int) ≤ (↑(Subtype.val x_1) : Int) ∧ (↑(Subtype.val x_1) : Int) < (↑(3 : Nat) : Int)) ∧ Int.toNat (↑(Subtype.val x_1) : Int) < (3 : Nat) ∧ List.length (List.drop (Int.toNat (↑(Subtype.val x).1 : Int)) (List.take (Int.toNat ((↑(Subtype.val x).1 : Int) + (1 : Int))) s)) ≤ (1000000000000 : Nat) ∧ br ((↑(cntC (List.getD [a, b, c] (Int.toNat (↑(Subtype.val x_1) : Int)) (0 : Int)) (List.drop (Int.toNat (↑(Subtype.val x).1 : Int)) (List.take (Int.toNat ((↑(Subtype.val x).1 : Int) + (1 : Int))) s))) : Int) == (0 : Int)) (inR IntKind.i64 ((↑(Subtype.val x_1) : Int) + (1 : Int)) ∧ ∃ (x' : RI a b c s (Prod.fst (Subtype.val x))), (s = s ∧ (↑(Subtype.val x_1) : Int) + (1 : Int) = (↑(Subtype.val x') : Int) ∧ (↑(Subtype.val x).1 : Int) = (↑(Subtype.val x).1 : Int) ∧ [a, b, c] = [a, b, c]) ∧ (3 : Nat) - Subtype.val x' < (3 : Nat) - Subtype.val x_1) (br ((↑(Subtype.val x_1) : Int) == (3 : Int)) (false = decide (rowsF a b c (0 : Nat) s = [])) (inR IntKind.i64 ((↑(Subtype.val x).1 : Int) + (1 : Int)) ∧ ∃ (x' : RW a b c s), (s = s ∧ (↑(Subtype.val x_1) : Int) = (↑(Subtype.val x').2 : Int) ∧ (↑(Subtype.val x).1 : Int) + (1 : Int) = (↑(Subtype.val x').1 : Int) ∧ [a, b, c] = [a, b, c]) ∧ List.length s - (Subtype.val x').1 < List.length s - (Subtype.val x).1))) (br ((↑(Subtype.val x_1) : Int) == (3 : Int)) (false = decide (rowsF a b c (0 : Nat) s = [])) (inR IntKind.i64 ((↑(Subtype.val x).1 : Int) + (1 : Int)) ∧ ∃ (x' : RW a b c s), (s = s ∧ (↑(Subtype.val x_1) : Int) = (↑(Subtype.val x').2 : Int) ∧ (↑(Subtype.val x).1 : Int) + (1 : Int) = (↑(Subtype.val x').1 : Int) ∧ [a, b, c] = [a, b, c]) ∧ List.length s - (Subtype.val x').1 < List.length s - (Subtype.val x).1))) (true = decide (rowsF a b c (0 : Nat) s = []))) := by kernel_rfl
set_option maxHeartbeats 4000000 in
theorem of_r3rows (h : ∀ (s : List UInt8) (a b c : Int), (s.length ≤ 1000000000000) → ((0 ≤ a ∧ a < 256) ∧ (0 ≤ b ∧ b < 256) ∧ (0 ≤ c ∧ c < 256)) → vcP [(42, sp_r3count)] [] miscL Tryz.f43 (.loop 4 (RW a b c s) (fun p => ⟨[(0, .one (.str s)), (9, .one (.slc 16)), (10, .one (.int .i64 p.1.2)), (11, .one (.int .i64 p.1.1))], [(16, some (.row 5 (.ints .u8 [a, b, c])))], 17⟩) (fun p => s.length - p.1.1) (fun p => .loop 6 (RI a b c s p.1.1) (fun k => ⟨[(0, .one (.str s)), (9, .one (.slc 16)), (10, .one (.int .i64 k.1)), (11, .one (.int .i64 p.1.1))], [(16, some (.row 5 (.ints .u8 [a, b, c])))], 17⟩) (fun k => 3 - k.1) (fun _ => .nil) .nil) .nil) [.one (.str s), .one (.int .u8 a), .one (.int .u8 b), .one (.int .u8 c)] (.one (.bool (decide (rowsF a b c 0 s = []))))) : FnP 43 sp_r3rows := by
  refine fnP_ok (cs := [(42, sp_r3count)]) (cas := []) (ms := miscL) (.cons ok_r3count .nil) .nil miscL_ok 43 Tryz.f43 (by kernel_rfl) (by kernel_rfl) (by kernel_rfl) (fun | [.one (.str s), .one (.int .u8 a), .one (.int .u8 b), .one (.int .u8 c)] => .loop 4 (RW a b c s) (fun p => ⟨[(0, .one (.str s)), (9, .one (.slc 16)), (10, .one (.int .i64 p.1.2)), (11, .one (.int .i64 p.1.1))], [(16, some (.row 5 (.ints .u8 [a, b, c])))], 17⟩) (fun p => s.length - p.1.1) (fun p => .loop 6 (RI a b c s p.1.1) (fun k => ⟨[(0, .one (.str s)), (9, .one (.slc 16)), (10, .one (.int .i64 k.1)), (11, .one (.int .i64 p.1.1))], [(16, some (.row 5 (.ints .u8 [a, b, c])))], 17⟩) (fun k => 3 - k.1) (fun _ => .nil) .nil) .nil | _ => .nil) ?_
  intro pvs p r hs hp
  unfold sp_r3rows at hs
  simp only at hs
  split at hs
  · rename_i s a b c
    cases hs
    refine h s a b c ?_ ?_
    · exact hp.1
    · exact hp.2
  · cases hs

theorem cutI_here {c : Int} {s : List UInt8} {i : Nat} (h : i < s.length) (hc : ((s.getD i 0).toNat : Int) = c) : cutI c (s.drop i) = ([], s.drop (i + 1), true) := by
  rw [drop_next s 0 h]; unfold cutI; rw [if_pos hc]
theorem cutI_on {c : Int} {s : List UInt8} {i : Nat} (h : i < s.length) (hc : ((s.getD i 0).toNat : Int) ≠ c) : cutI c (s.drop i) = (s.getD i 0 :: (cutI c (s.drop (i + 1))).1, (cutI c (s.drop (i + 1))).2.1, (cutI c (s.drop (i + 1))).2.2) := by
  rw [drop_next s 0 h, cutI, if_neg hc]
theorem ok_r3cut : FnP 40 sp_r3cut := of_r3cut (by
  intro s c hs
  rw [vc_r3cut]
  refine ⟨⟨⟨0, Nat.zero_le _, rfl⟩, by and_intros <;> rfl⟩, fun x => ?_⟩
  obtain ⟨i, hx, hq⟩ := x
  dsimp only
  refine br_of (fun h => ?_) fun h => ?_
  · have h : i < s.length := by simpa using h
    rw [bAt_nat]
    refine ⟨⟨by omega, by omega⟩, br_of (fun h1 => ⟨⟨by omega, by omega⟩, by simp only [inR]; omega, ⟨by omega, by omega⟩, ?_⟩) fun h1 => ⟨by simp only [inR]; omega, ⟨i + 1, h, ?_⟩, by and_intros <;> rfl, by show s.length - (i + 1) < _; omega⟩⟩
    · rw [cutI_here h (by simpa using h1)] at hq
      rw [hq, Int.toNat_natCast, show ((i : Int) + 1).toNat = i + 1 by omega]
      exact ⟨(List.append_nil _).symm, rfl, rfl⟩
    · rw [hq, cutI_on h (by simpa using h1), take_next s 0 h]
      simp
  · have h : i = s.length := by
      have : ¬ i < s.length := by simpa using h
      omega
    rw [h, List.drop_length, List.take_length] at hq
    rw [hq]
    exact ⟨(List.append_nil _).symm, rfl, rfl⟩)
theorem ok_r3strip : FnP 41 sp_r3strip := of_r3strip (by
  intro s hs
  rw [vc_r3strip]
  refine ⟨⟨⟨s, Nat.le_refl _, rfl⟩, rfl⟩, fun x => ?_⟩
  obtain ⟨t, ht, hq⟩ := x
  refine br_of (fun h => ?_) fun h => ?_
  · have h : 0 < t.length := by simpa using h
    obtain ⟨y, m, rfl⟩ := List.exists_cons_of_length_pos h
    have hb : bAt (y :: m) 0 = (y.toNat : Int) := rfl
    rw [hb]
    have hd : dropP (· == 48) (y :: m) = if ((y.toNat : Int) == 48) = true then dropP (· == 48) m else y :: m := by
      unfold dropP; rw [List.dropWhile_cons]
    refine ⟨⟨by omega, by simp⟩, br_of (fun h1 => ⟨⟨by omega, by simp only [List.length_cons]; omega⟩, ⟨m, by simp at ht; omega, ?_⟩, rfl, by simp⟩) fun h1 => ?_⟩
    · rw [if_pos h1] at hd; rw [← hq, hd]
    · rw [if_neg (by simp [h1])] at hd; exact hd.symm.trans hq
  · have h : t = [] := by
      have : ¬ 0 < t.length := by simpa using h
      exact List.eq_nil_of_length_eq_zero (by omega)
    subst h
    exact hq)
theorem dropC_cons (k : Int) (x : UInt8) (s : List UInt8) : dropC k (x :: s) = if isC k x = true then dropC k s else x :: s := by
  unfold dropC; rw [List.dropWhile_cons]
theorem rowsF_nil (a b c : Int) (k : Nat) : rowsF a b c k [] = [] := by
  unfold rowsF; split <;> rfl
theorem rowsF_up {a b c : Int} {k : Nat} {x : UInt8} {s : List UInt8} (hk : k < 3) (h : isC ([a, b, c].getD k 0) x = false) : rowsF a b c k (x :: s) = rowsF a b c (k + 1) (x :: s) := by
  match k, hk, h with
  | 0, _, h => unfold rowsF; simp only; rw [dropC_cons a, if_neg (by have h : isC a x = false := h; simp [h])]
  | 1, _, h => unfold rowsF; simp only; rw [dropC_cons b, if_neg (by have h : isC b x = false := h; simp [h])]
  | 2, _, h => unfold rowsF; simp only; rw [dropC_cons c, if_neg (by have h : isC c x = false := h; simp [h])]
theorem rowsF_on {a b c : Int} {k : Nat} {x : UInt8} {s : List UInt8} (hk : k < 3) (h : isC ([a, b, c].getD k 0) x = true) : rowsF a b c k (x :: s) = rowsF a b c k s := by
  match k, hk, h with
  | 0, _, h => unfold rowsF; simp only; rw [dropC_cons a, if_pos (show isC a x = true from h)]
  | 1, _, h => unfold rowsF; simp only; rw [dropC_cons b, if_pos (show isC b x = true from h)]
  | 2, _, h => unfold rowsF; simp only; rw [dropC_cons c, if_pos (show isC c x = true from h)]
theorem ok_r3rows : FnP 43 sp_r3rows := of_r3rows (by
  intro s a b c hs hb
  rw [vc_r3rows]
  refine ⟨⟨⟨(0, 0), Nat.zero_le _, by decide, rfl⟩, by and_intros <;> rfl⟩, fun x => ?_⟩
  obtain ⟨⟨i, k0⟩, hi, hk0, hq⟩ := x
  dsimp only at hi hk0 hq ⊢
  refine br_of (fun h => ?_) fun h => ?_
  · have h : i < s.length := by simpa using h
    refine ⟨⟨⟨k0, h, by omega, hq⟩, by and_intros <;> rfl⟩, fun y => ?_⟩
    obtain ⟨k, _, hk, hr⟩ := y
    dsimp only at hr ⊢
    rw [drop_next s 0 h] at hr
    have e1 : ((i : Int) + 1).toNat = i + 1 := by omega
    have e2 : List.drop i (List.take (i + 1) s) = [s.getD i 0] := by
      rw [List.drop_take, drop_next s 0 h, show i + 1 - i = 1 by omega]; rfl
    have i1 : inR .i64 ((i : Int) + 1) := by simp only [inR]; omega
    rw [Int.toNat_natCast, Int.toNat_natCast, e1, e2]
    have hc : cntC ([a, b, c].getD k 0) [s.getD i 0] = if isC ([a, b, c].getD k 0) (s.getD i 0) = true then 1 else 0 := by
      unfold cntC; rw [List.countP_singleton]
    rw [hc]
    have k3 : decide ((k : Int) < 3) = true → k < 3 := fun h1 => by
      have : (k : Int) < 3 := by simpa using h1
      omega
    have ck3 : decide ((k : Int) < 3) = true → (k : Int) < ((3 : Nat) : Int) := fun h1 => by
      have := k3 h1
      omega
    refine br_of (fun h1 => ⟨i1, ⟨by omega, by omega, by omega⟩, ⟨by omega, ck3 h1⟩, k3 h1, by simp, br_of (fun h2 => ?_) fun h2 => br_of (fun h3 => ?_) fun h3 => ?_⟩) fun h1 => br_of (fun h3 => ?_) fun h3 => ?_
    all_goals first | have h1 : k < 3 := by (have : (k : Int) < 3 := by simpa using h1); omega
                    | have h1 : ¬ k < 3 := by (have : ¬ (k : Int) < 3 := by simpa using h1); omega
    · have h2 : isC ([a, b, c].getD k 0) (s.getD i 0) = false := by
        cases hx : isC ([a, b, c].getD k 0) (s.getD i 0) with
        | false => rfl
        | true => rw [hx] at h2; simp at h2
      rw [rowsF_up h1 h2] at hr
      exact ⟨by simp only [inR]; omega, ⟨k + 1, h, by omega, by rw [drop_next s 0 h]; exact hr⟩, by and_intros <;> rfl, by show 3 - (k + 1) < 3 - k; omega⟩
    · exfalso; simp at h3; omega
    · have h2 : isC ([a, b, c].getD k 0) (s.getD i 0) = true := by
        cases hx : isC ([a, b, c].getD k 0) (s.getD i 0) with
        | true => rfl
        | false => rw [hx] at h2; simp at h2
      rw [rowsF_on h1 h2] at hr
      exact ⟨i1, ⟨(i + 1, k), h, by show k ≤ 2; omega, hr⟩, by and_intros <;> rfl, by show s.length - (i + 1) < s.length - i; omega⟩
    · have h3 : k = 3 := by omega
      subst h3
      have hr : s.getD i 0 :: s.drop (i + 1) = rowsF a b c 0 s := hr
      rw [← hr]; symm; exact decide_eq_false (by simp)
    · exfalso
      have h3 : ¬ (k : Int) = 3 := by simpa using h3
      omega
  · have h : ¬ i < s.length := by simpa using h
    rw [List.drop_of_length_le (by omega), rowsF_nil] at hq
    rw [← hq]; exact (decide_eq_true rfl).symm)
end Go.Proofs.YtglfkihckkjniaaGreatDoor.Vx
