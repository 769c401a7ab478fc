/-
VX, functions 5: a pattern's elements. No statement of the seat is proved here.
-/
import Derived.Test.YtglfkihckkjniaaGreatDoorVxF04
set_option maxRecDepth 100000
set_option linter.unusedVariables false
set_option linter.unusedSimpArgs false
namespace Go.Proofs.YtglfkihckkjniaaGreatDoor.Vx
open Go Go.RowKit

/-! ### figurehead/pattern.hasRune, is -/
def Asc (s : List UInt8) : Prop := ∀ c ∈ s, c.toNat < 128
def hasR (s : List UInt8) (r : Int) : Bool := s.any fun c => (c.toNat : Int) == r
def HR (s : List UInt8) (r : Int) : Type := {i : Nat // i ≤ s.length ∧ hasR (s.take i) r = false}
def sp_hasRune : FSpec := ⟨[], fun | [.one (.str s), .one (.int .i32 r)] => some ([Asc s], .one (.bool (hasR s r))) | _ => none⟩
theorem vc_hasRune (s : List UInt8) (r : Int) : vcP [] [] misc Tryz.f85 (.loop 2 (HR s r) (fun i => ⟨[(0, .one (.str s)), (1, .one (.int .i32 r)), (8, .one (.slc 17))], [(17, some (.iter s i.1))], 18⟩) (fun i => s.length - i.1) (fun _ => .nil) .nil) [.one (.str s), .one (.int .i32 r)] (.one (.bool (hasR s r))) = ((∃ (x : HR s r), s = s ∧ r = r ∧ (0 : Nat) = Subtype.val x ∧ s = s) ∧ ∀ (x : HR s r), br (decide (Subtype.val x < List.length s)) (br (dec s (Subtype.val x) == r) (true = hasR s r) (∃ (x' : HR s r), (s = s ∧ r = r ∧ Subtype.val x + wid s (Subtype.val x) = Subtype.val x' ∧ s = s) ∧ List.length s - Subtype.val x' < List.length s - Subtype.val x)) (false = hasR s r)) := by kernel_rfl
set_option maxHeartbeats 4000000 in
theorem of_hasRune (h : ∀ (s : List UInt8) (r : Int), (Asc s) → vcP [] [] misc Tryz.f85 (.loop 2 (HR s r) (fun i => ⟨[(0, .one (.str s)), (1, .one (.int .i32 r)), (8, .one (.slc 17))], [(17, some (.iter s i.1))], 18⟩) (fun i => s.length - i.1) (fun _ => .nil) .nil) [.one (.str s), .one (.int .i32 r)] (.one (.bool (hasR s r)))) : FnP 85 sp_hasRune := by
  refine fnP_ok (cs := []) (cas := []) (ms := misc) .nil .nil misc_ok 85 Tryz.f85 (by kernel_rfl) (by kernel_rfl) (by kernel_rfl) (fun | [.one (.str s), .one (.int .i32 r)] => .loop 2 (HR s r) (fun i => ⟨[(0, .one (.str s)), (1, .one (.int .i32 r)), (8, .one (.slc 17))], [(17, some (.iter s i.1))], 18⟩) (fun i => s.length - i.1) (fun _ => .nil) .nil | _ => .nil) ?_
  intro pvs p r hs hp
  unfold sp_hasRune at hs
  simp only at hs
  split at hs
  · rename_i s r
    cases hs
    refine h s r ?_
    · exact hp
  · cases hs
theorem dec_asc {s : List UInt8} (h : Asc s) {i : Nat} (hi : i < s.length) : dec s i = ((s.getD i 0).toNat : Int) ∧ wid s i = 1 := by
  obtain ⟨q1, q2⟩ := dec_decL s i
  have hm : s.getD i 0 ∈ s := getD_mem' hi
  have hlt := h _ hm
  have hd : decL (s.drop i) = ((s.getD i 0).toNat, 1) := by
    have hne : s.drop i ≠ [] := by simp; omega
    have hb : bt (s.drop i) 0 = (s.getD i 0).toNat := by rw [bt_drop]; rfl
    have hc : Cls (s.drop i) ((s.getD i 0).toNat : Int) 1 := by
      have h1 : (s.getD i 0) = UInt8.ofNat ((s.getD i 0).toNat : Int).toNat := by simp
      have h2 : Starts (s.drop i) ((s.getD i 0).toNat : Int) := by
        refine ⟨scalar_iff.2 (by omega), ?_⟩
        rw [enc1 (by omega) (by omega), ← h1]
        exact ⟨s.drop (i + 1), by rw [List.singleton_append]; exact (List.drop_eq_getElem_cons hi ▸ by rw [List.getD_eq_getElem?_getD, List.getElem?_eq_getElem hi]; rfl)⟩
      refine cls_iff.2 ⟨h2, ?_⟩
      rw [enc1 (by omega) (by omega)]; rfl
    exact ((decL_iff hne).2 hc).1
  rw [q1, q2, hd]
  exact ⟨rfl, rfl⟩
theorem hasR_next {s : List UInt8} {r : Int} {i : Nat} (h : i < s.length) : hasR (s.take (i + 1)) r = (hasR (s.take i) r || (((s.getD i 0).toNat : Int) == r)) := by
  unfold hasR
  rw [take_next s 0 h, List.any_append]; simp
theorem hasR_mem {s : List UInt8} {r : Int} {i : Nat} (h : i < s.length) (hr : ((s.getD i 0).toNat : Int) = r) : hasR s r = true := by
  unfold hasR
  exact List.any_eq_true.2 ⟨s.getD i 0, getD_mem' h, by simpa using hr⟩
theorem ok_hasRune : FnP 85 sp_hasRune := of_hasRune (by
  intro s r hs
  rw [vc_hasRune]
  refine ⟨⟨⟨0, Nat.zero_le _, rfl⟩, rfl, rfl, rfl, rfl⟩, fun i => br_of (fun h => ?_) fun h => ?_⟩
  · have h : i.1 < s.length := of_decide_eq_true h
    obtain ⟨q1, q2⟩ := dec_asc hs h
    rw [q1, q2]
    refine br_of (fun h1 => ?_) fun h1 => ⟨⟨i.1 + 1, h, by rw [hasR_next h, i.2.2, h1]; rfl⟩, ⟨rfl, rfl, rfl, rfl⟩, by show s.length - (i.1 + 1) < _; omega⟩
    rw [hasR_mem h (by simpa using h1)]
  · have h : ¬ i.1 < s.length := of_decide_eq_false h
    have := i.2.2
    rw [List.take_of_length_le (by omega)] at this
    rw [this])
def isIn (c : List UInt8) (y : Iv) : Bool := y.isS && (!y.sQ && hasR c y.sR)
def sp_is : FSpec := ⟨[], fun | [.one (.iv y), .one (.str c)] => some ([Asc c], .one (.bool (isIn c y))) | _ => none⟩
theorem vc_is (y : Iv) (c : List UInt8) : vcP [(85, sp_hasRune)] [] misc Tryz.f62 (.nil) [.one (.iv y), .one (.str c)] (.one (.bool (isIn c y))) = (br (Iv.isS y) (br (!Iv.sQ y) ((∀ (c_1 : UInt8), c_1 ∈ c → UInt8.toNat c_1 < (128 : Nat)) ∧ hasR c (Iv.sR y) = isIn c y) (false = isIn c y)) (false = isIn c y)) := by kernel_rfl
set_option maxHeartbeats 4000000 in
theorem of_is (h : ∀ (y : Iv) (c : List UInt8), (Asc c) → vcP [(85, sp_hasRune)] [] misc Tryz.f62 (.nil) [.one (.iv y), .one (.str c)] (.one (.bool (isIn c y)))) : FnP 62 sp_is := by
  refine fnP_ok (cs := [(85, sp_hasRune)]) (cas := []) (ms := misc) (.cons ok_hasRune .nil) .nil misc_ok 62 Tryz.f62 (by kernel_rfl) (by kernel_rfl) (by kernel_rfl) (fun _ => .nil) ?_
  intro pvs p r hs hp
  unfold sp_is at hs
  simp only at hs
  split at hs
  · rename_i y c
    cases hs
    refine h y c ?_
    · exact hp
  · cases hs
theorem ok_is : FnP 62 sp_is := of_is (by
  intro y c hc
  rw [vc_is]
  unfold isIn
  refine br_of (fun h => br_of (fun h1 => ⟨hc, by rw [h, h1]; rfl⟩) fun h1 => by rw [h1, Bool.false_and, Bool.and_false]) fun h => by rw [h]; rfl)
/-! ### the ways of looking for one -/
def bodyC : List UInt8 := [35, 48, 49, 50, 51, 52, 53, 54, 55, 56, 57, 64, 44, 46]
theorem asc_iff {c : List UInt8} : Asc c ↔ (c.all fun x => decide (x.toNat < 128)) = true := by simp [Asc]
theorem bodyC_asc : Asc bodyC := asc_iff.2 rfl
theorem semi_asc : Asc [59] := asc_iff.2 rfl
def sp_run1 : FSpec := ⟨[], fun | [.one (.iv y), .one (.ref 9 (.str c))] => some ([Asc c], .one (.bool (!isIn c y))) | _ => none⟩
theorem vc_run1 (y : Iv) (c : List UInt8) : vcP [(62, sp_is)] [] misc Tryz.f112 (.nil) [.one (.iv y), .one (.ref 9 (.str c))] (.one (.bool (!isIn c y))) = ((∀ (c_1 : UInt8), c_1 ∈ c → UInt8.toNat c_1 < (128 : Nat)) ∧ (!isIn c y) = !isIn c y) := by kernel_rfl
set_option maxHeartbeats 4000000 in
theorem of_run1 (h : ∀ (y : Iv) (c : List UInt8), (Asc c) → vcP [(62, sp_is)] [] misc Tryz.f112 (.nil) [.one (.iv y), .one (.ref 9 (.str c))] (.one (.bool (!isIn c y)))) : FnP 112 sp_run1 := by
  refine fnP_ok (cs := [(62, sp_is)]) (cas := []) (ms := misc) (.cons ok_is .nil) .nil misc_ok 112 Tryz.f112 (by kernel_rfl) (by kernel_rfl) (by kernel_rfl) (fun _ => .nil) ?_
  intro pvs p r hs hp
  unfold sp_run1 at hs
  simp only at hs
  split at hs
  · rename_i y c
    cases hs
    refine h y c ?_
    · exact hp
  · cases hs
theorem ok_run1 : FnP 112 sp_run1 := of_run1 (by
  intro y c hc
  rw [vc_run1]
  exact ⟨hc, rfl⟩)
def sp_ahead1 : FSpec := ⟨[], fun | [.one (.iv y)] => some ([], .one (.bool (isIn [59] y))) | _ => none⟩
theorem vc_ahead1 (y : Iv) : vcP [(62, sp_is)] [] misc Tryz.f61 (.nil) [.one (.iv y)] (.one (.bool (isIn [59] y))) = ((∀ (c : UInt8), c ∈ ([(59 : UInt8)] : List UInt8) → UInt8.toNat c < (128 : Nat)) ∧ isIn (([(59 : UInt8)] : List UInt8)) y = isIn [(59 : UInt8)] y) := by kernel_rfl
set_option maxHeartbeats 4000000 in
theorem of_ahead1 (h : ∀ (y : Iv), vcP [(62, sp_is)] [] misc Tryz.f61 (.nil) [.one (.iv y)] (.one (.bool (isIn [59] y)))) : FnP 61 sp_ahead1 := by
  refine fnP_ok (cs := [(62, sp_is)]) (cas := []) (ms := misc) (.cons ok_is .nil) .nil misc_ok 61 Tryz.f61 (by kernel_rfl) (by kernel_rfl) (by kernel_rfl) (fun _ => .nil) ?_
  intro pvs p r hs hp
  unfold sp_ahead1 at hs
  simp only at hs
  split at hs
  · rename_i y
    cases hs
    refine h y
  · cases hs
theorem ok_ahead1 : FnP 61 sp_ahead1 := of_ahead1 (by
  intro y
  rw [vc_ahead1]
  exact ⟨semi_asc, rfl⟩)
def sp_cut1 : FSpec := ⟨[], fun | [.one (.iv y)] => some ([], .one (.bool (isIn bodyC y))) | _ => none⟩
theorem vc_cut1 (y : Iv) : vcP [(62, sp_is)] [] misc Tryz.f86 (.nil) [.one (.iv y)] (.one (.bool (isIn bodyC y))) = (letI v0 := ([(35 : UInt8), (48 : UInt8), (49 : UInt8), (50 : UInt8), (51 : UInt8), (52 : UInt8), (53 : UInt8), (54 : UInt8), (55 : UInt8), (56 : UInt8), (57 : UInt8), (64 : UInt8), (44 : UInt8), (46 : UInt8)] : List UInt8); ((∀ (c : UInt8), c ∈ v0 → UInt8.toNat c < (128 : Nat)) ∧ isIn (v0) y = isIn bodyC y)) := by kernel_rfl
set_option maxHeartbeats 4000000 in
theorem of_cut1 (h : ∀ (y : Iv), vcP [(62, sp_is)] [] misc Tryz.f86 (.nil) [.one (.iv y)] (.one (.bool (isIn bodyC y)))) : FnP 86 sp_cut1 := by
  refine fnP_ok (cs := [(62, sp_is)]) (cas := []) (ms := misc) (.cons ok_is .nil) .nil misc_ok 86 Tryz.f86 (by kernel_rfl) (by kernel_rfl) (by kernel_rfl) (fun _ => .nil) ?_
  intro pvs p r hs hp
  unfold sp_cut1 at hs
  simp only at hs
  split at hs
  · rename_i y
    cases hs
    refine h y
  · cases hs
theorem ok_cut1 : FnP 86 sp_cut1 := of_cut1 (by
  intro y
  rw [vc_cut1]
  exact ⟨bodyC_asc, rfl⟩)
def idxZ {α : Type} (P : α → Bool) (l : List α) : Int := if l.findIdx P < l.length then (l.findIdx P : Int) else -1
/-- Nothing so far. -/
def None {α : Type} (P : α → Bool) (l : List α) : Type := {i : Nat // i ≤ l.length ∧ ∀ y ∈ l.take i, P y = false}
def sp_idxR : FSpec := ⟨[], fun | [.one (.rd (.ivs l)), .one (.fnv 112 [(9, .str c)])] => some ([Asc c, l.length ≤ 1000000000], .one (.int .i64 (idxZ (fun y => !isIn c y) l))) | _ => none⟩
theorem vc_idxR (l : List Iv) (c : List UInt8) : vcP [(112, sp_run1)] [] misc Tryz.f84 (.loop 2 (None (fun y => !isIn c y) l) (fun i => ⟨[(0, .one (.slc 0)), (1, .one (.fn 112 [(1, 0)])), (7, .one (.int .i64 l.length)), (8, .one (.int .i64 i.1))], [(0, some (.read (.ivs l))), (1, some (.ro 9 [.str c]))], 18⟩) (fun i => l.length - i.1) (fun _ => .nil) .nil) [.one (.rd (.ivs l)), .one (.fnv 112 [(9, .str c)])] (.one (.int .i64 (idxZ (fun y => !isIn c y) l))) = ((∃ (x : None (fun (y : Iv) => !isIn c y) l), (↑(List.length l) : Int) = (↑(List.length l) : Int) ∧ (0 : Int) = (↑(Subtype.val x) : Int) ∧ l = l ∧ c = c) ∧ ∀ (x : None (fun (y : Iv) => !isIn c y) l), br (decide ((↑(Subtype.val x) : Int) < (↑(List.length l) : Int))) (((0 : Int) ≤ (↑(Subtype.val x) : Int) ∧ (↑(Subtype.val x) : Int) < (↑(List.length l) : Int)) ∧ Int.toNat (↑(Subtype.val x) : Int) < List.length l ∧ (∀ (c_1 : UInt8), c_1 ∈ c → UInt8.toNat c_1 < (128 : Nat)) ∧ br (!isIn c (List.getD l (Int.toNat (↑(Subtype.val x) : Int)) default)) ((↑(Subtype.val x) : Int) = idxZ (fun (y : Iv) => !isIn c y) l) (inR IntKind.i64 ((↑(Subtype.val x) : Int) + (1 : Int)) ∧ ∃ (x' : None (fun (y : Iv) => !isIn c y) l), ((↑(List.length l) : Int) = (↑(List.length l) : Int) ∧ (↑(Subtype.val x) : Int) + (1 : Int) = (↑(Subtype.val x') : Int) ∧ l = l ∧ c = c) ∧ List.length l - Subtype.val x' < List.length l - Subtype.val x)) ((-1 : Int) = idxZ (fun (y : Iv) => !isIn c y) l)) := by kernel_rfl
set_option maxHeartbeats 4000000 in
theorem of_idxR (h : ∀ (l : List Iv) (c : List UInt8), (Asc c) → (l.length ≤ 1000000000) → vcP [(112, sp_run1)] [] misc Tryz.f84 (.loop 2 (None (fun y => !isIn c y) l) (fun i => ⟨[(0, .one (.slc 0)), (1, .one (.fn 112 [(1, 0)])), (7, .one (.int .i64 l.length)), (8, .one (.int .i64 i.1))], [(0, some (.read (.ivs l))), (1, some (.ro 9 [.str c]))], 18⟩) (fun i => l.length - i.1) (fun _ => .nil) .nil) [.one (.rd (.ivs l)), .one (.fnv 112 [(9, .str c)])] (.one (.int .i64 (idxZ (fun y => !isIn c y) l)))) : FnP 84 sp_idxR := by
  refine fnP_ok (cs := [(112, sp_run1)]) (cas := []) (ms := misc) (.cons ok_run1 .nil) .nil misc_ok 84 Tryz.f84 (by kernel_rfl) (by kernel_rfl) (by kernel_rfl) (fun | [.one (.rd (.ivs l)), .one (.fnv 112 [(9, .str c)])] => .loop 2 (None (fun y => !isIn c y) l) (fun i => ⟨[(0, .one (.slc 0)), (1, .one (.fn 112 [(1, 0)])), (7, .one (.int .i64 l.length)), (8, .one (.int .i64 i.1))], [(0, some (.read (.ivs l))), (1, some (.ro 9 [.str c]))], 18⟩) (fun i => l.length - i.1) (fun _ => .nil) .nil | _ => .nil) ?_
  intro pvs p r hs hp
  unfold sp_idxR at hs
  simp only at hs
  split at hs
  · rename_i l c
    cases hs
    refine h l c ?_ ?_
    · exact hp.1
    · exact hp.2
  · cases hs
def sp_idxA : FSpec := ⟨[], fun | [.one (.rd (.ivs l)), .one (.fnv 61 [])] => some ([l.length ≤ 1000000000], .one (.int .i64 (idxZ (isIn [59]) l))) | _ => none⟩
theorem vc_idxA (l : List Iv) : vcP [(61, sp_ahead1)] [] misc Tryz.f84 (.loop 2 (None (isIn [59]) l) (fun i => ⟨[(0, .one (.slc 0)), (1, .one (.fn 61 [])), (7, .one (.int .i64 l.length)), (8, .one (.int .i64 i.1))], [(0, some (.read (.ivs l)))], 18⟩) (fun i => l.length - i.1) (fun _ => .nil) .nil) [.one (.rd (.ivs l)), .one (.fnv 61 [])] (.one (.int .i64 (idxZ (isIn [59]) l))) = ((∃ (x : None (isIn [(59 : UInt8)]) l), (↑(List.length l) : Int) = (↑(List.length l) : Int) ∧ (0 : Int) = (↑(Subtype.val x) : Int) ∧ l = l) ∧ ∀ (x : None (isIn [(59 : UInt8)]) l), br (decide ((↑(Subtype.val x) : Int) < (↑(List.length l) : Int))) (((0 : Int) ≤ (↑(Subtype.val x) : Int) ∧ (↑(Subtype.val x) : Int) < (↑(List.length l) : Int)) ∧ Int.toNat (↑(Subtype.val x) : Int) < List.length l ∧ br (isIn [(59 : UInt8)] (List.getD l (Int.toNat (↑(Subtype.val x) : Int)) default)) ((↑(Subtype.val x) : Int) = idxZ (isIn [(59 : UInt8)]) l) (inR IntKind.i64 ((↑(Subtype.val x) : Int) + (1 : Int)) ∧ ∃ (x' : None (isIn [(59 : UInt8)]) l), ((↑(List.length l) : Int) = (↑(List.length l) : Int) ∧ (↑(Subtype.val x) : Int) + (1 : Int) = (↑(Subtype.val x') : Int) ∧ l = l) ∧ List.length l - Subtype.val x' < List.length l - Subtype.val x)) ((-1 : Int) = idxZ (isIn [(59 : UInt8)]) l)) := by kernel_rfl
set_option maxHeartbeats 4000000 in
theorem of_idxA (h : ∀ (l : List Iv), (l.length ≤ 1000000000) → vcP [(61, sp_ahead1)] [] misc Tryz.f84 (.loop 2 (None (isIn [59]) l) (fun i => ⟨[(0, .one (.slc 0)), (1, .one (.fn 61 [])), (7, .one (.int .i64 l.length)), (8, .one (.int .i64 i.1))], [(0, some (.read (.ivs l)))], 18⟩) (fun i => l.length - i.1) (fun _ => .nil) .nil) [.one (.rd (.ivs l)), .one (.fnv 61 [])] (.one (.int .i64 (idxZ (isIn [59]) l)))) : FnP 84 sp_idxA := by
  refine fnP_ok (cs := [(61, sp_ahead1)]) (cas := []) (ms := misc) (.cons ok_ahead1 .nil) .nil misc_ok 84 Tryz.f84 (by kernel_rfl) (by kernel_rfl) (by kernel_rfl) (fun | [.one (.rd (.ivs l)), .one (.fnv 61 [])] => .loop 2 (None (isIn [59]) l) (fun i => ⟨[(0, .one (.slc 0)), (1, .one (.fn 61 [])), (7, .one (.int .i64 l.length)), (8, .one (.int .i64 i.1))], [(0, some (.read (.ivs l)))], 18⟩) (fun i => l.length - i.1) (fun _ => .nil) .nil | _ => .nil) ?_
  intro pvs p r hs hp
  unfold sp_idxA at hs
  simp only at hs
  split at hs
  · rename_i l
    cases hs
    refine h l ?_
    · exact hp
  · cases hs
def sp_idxC : FSpec := ⟨[], fun | [.one (.rd (.ivs l)), .one (.fnv 86 [])] => some ([l.length ≤ 1000000000], .one (.int .i64 (idxZ (isIn bodyC) l))) | _ => none⟩
theorem vc_idxC (l : List Iv) : vcP [(86, sp_cut1)] [] misc Tryz.f84 (.loop 2 (None (isIn bodyC) l) (fun i => ⟨[(0, .one (.slc 0)), (1, .one (.fn 86 [])), (7, .one (.int .i64 l.length)), (8, .one (.int .i64 i.1))], [(0, some (.read (.ivs l)))], 18⟩) (fun i => l.length - i.1) (fun _ => .nil) .nil) [.one (.rd (.ivs l)), .one (.fnv 86 [])] (.one (.int .i64 (idxZ (isIn bodyC) l))) = ((∃ (x : None (isIn bodyC) l), (↑(List.length l) : Int) = (↑(List.length l) : Int) ∧ (0 : Int) = (↑(Subtype.val x) : Int) ∧ l = l) ∧ ∀ (x : None (isIn bodyC) l), br (decide ((↑(Subtype.val x) : Int) < (↑(List.length l) : Int))) (((0 : Int) ≤ (↑(Subtype.val x) : Int) ∧ (↑(Subtype.val x) : Int) < (↑(List.length l) : Int)) ∧ Int.toNat (↑(Subtype.val x) : Int) < List.length l ∧ br (isIn bodyC (List.getD l (Int.toNat (↑(Subtype.val x) : Int)) default)) ((↑(Subtype.val x) : Int) = idxZ (isIn bodyC) l) (inR IntKind.i64 ((↑(Subtype.val x) : Int) + (1 : Int)) ∧ ∃ (x' : None (isIn bodyC) l), ((↑(List.length l) : Int) = (↑(List.length l) : Int) ∧ (↑(Subtype.val x) : Int) + (1 : Int) = (↑(Subtype.val x') : Int) ∧ l = l) ∧ List.length l - Subtype.val x' < List.length l - Subtype.val x)) ((-1 : Int) = idxZ (isIn bodyC) l)) := by kernel_rfl
set_option maxHeartbeats 4000000 in
theorem of_idxC (h : ∀ (l : List Iv), (l.length ≤ 1000000000) → vcP [(86, sp_cut1)] [] misc Tryz.f84 (.loop 2 (None (isIn bodyC) l) (fun i => ⟨[(0, .one (.slc 0)), (1, .one (.fn 86 [])), (7, .one (.int .i64 l.length)), (8, .one (.int .i64 i.1))], [(0, some (.read (.ivs l)))], 18⟩) (fun i => l.length - i.1) (fun _ => .nil) .nil) [.one (.rd (.ivs l)), .one (.fnv 86 [])] (.one (.int .i64 (idxZ (isIn bodyC) l)))) : FnP 84 sp_idxC := by
  refine fnP_ok (cs := [(86, sp_cut1)]) (cas := []) (ms := misc) (.cons ok_cut1 .nil) .nil misc_ok 84 Tryz.f84 (by kernel_rfl) (by kernel_rfl) (by kernel_rfl) (fun | [.one (.rd (.ivs l)), .one (.fnv 86 [])] => .loop 2 (None (isIn bodyC) l) (fun i => ⟨[(0, .one (.slc 0)), (1, .one (.fn 86 [])), (7, .one (.int .i64 l.length)), (8, .one (.int .i64 i.1))], [(0, some (.read (.ivs l)))], 18⟩) (fun i => l.length - i.1) (fun _ => .nil) .nil | _ => .nil) ?_
  intro pvs p r hs hp
  unfold sp_idxC at hs
  simp only at hs
  split at hs
  · rename_i l
    cases hs
    refine h l ?_
    · exact hp
  · cases hs
theorem None.hit {α : Type} {P : α → Bool} {l : List α} (x : None P l) {d : α} (h : x.1 < l.length) (hp : P (l.getD x.1 d) = true) : l.findIdx P = x.1 := by
  have hg : l.getD x.1 d = l[x.1] := by rw [List.getD_eq_getElem?_getD, List.getElem?_eq_getElem h]; rfl
  rw [hg] at hp
  refine (List.findIdx_eq h).2 ⟨hp, fun j hj => x.2.2 _ ?_⟩
  rw [List.mem_take_iff_getElem]
  exact ⟨j, by omega, rfl⟩
theorem None.over {α : Type} {P : α → Bool} {l : List α} (x : None P l) (h : ¬ x.1 < l.length) : l.findIdx P = l.length := by
  have h1 := x.2.2
  rw [List.take_of_length_le (by omega)] at h1
  exact List.findIdx_eq_length.2 h1
def None.zero {α : Type} (P : α → Bool) (l : List α) : None P l := ⟨0, Nat.zero_le _, fun y hy => by cases hy⟩
def None.next {α : Type} {P : α → Bool} {l : List α} (x : None P l) (d : α) (h : x.1 < l.length) (hp : P (l.getD x.1 d) = false) : None P l := ⟨x.1 + 1, h, fun y hy => by
  rw [take_next l d h] at hy
  rcases List.mem_append.1 hy with hy | hy
  · exact x.2.2 y hy
  · rw [List.mem_singleton] at hy; rw [hy]; exact hp⟩
theorem None.hitZ {α : Type} {P : α → Bool} {l : List α} (x : None P l) {d : α} (h : x.1 < l.length) (hp : P (l.getD x.1 d) = true) : idxZ P l = x.1 := by
  unfold idxZ; rw [x.hit h hp, if_pos h]
theorem None.overZ {α : Type} {P : α → Bool} {l : List α} (x : None P l) (h : ¬ x.1 < l.length) : idxZ P l = -1 := by
  unfold idxZ; rw [x.over h, if_neg (Nat.lt_irrefl _)]
theorem ok_idxR : FnP 84 sp_idxR := of_idxR (by
  intro l c hc hl
  rw [vc_idxR]
  refine ⟨⟨.zero _ l, rfl, rfl, rfl, rfl⟩, fun x => br_of (fun h => ?_) fun h => ?_⟩
  · have h : x.1 < l.length := by simpa using h
    rw [Int.toNat_natCast]
    exact ⟨⟨by omega, by omega⟩, h, hc, br_of (fun h1 => (x.hitZ h h1).symm) fun h1 => ⟨by simp only [inR]; omega, x.next default h h1, ⟨rfl, rfl, rfl, rfl⟩, by show l.length - (x.1 + 1) < _; omega⟩⟩
  · exact (x.overZ (by simpa using h)).symm)
theorem ok_idxA : FnP 84 sp_idxA := of_idxA (by
  intro l hl
  rw [vc_idxA]
  refine ⟨⟨.zero _ l, rfl, rfl, rfl⟩, fun x => br_of (fun h => ?_) fun h => ?_⟩
  · have h : x.1 < l.length := by simpa using h
    rw [Int.toNat_natCast]
    exact ⟨⟨by omega, by omega⟩, h, br_of (fun h1 => (x.hitZ h h1).symm) fun h1 => ⟨by simp only [inR]; omega, x.next default h h1, ⟨rfl, rfl, rfl⟩, by show l.length - (x.1 + 1) < _; omega⟩⟩
  · exact (x.overZ (by simpa using h)).symm)
theorem ok_idxC : FnP 84 sp_idxC := of_idxC (by
  intro l hl
  rw [vc_idxC]
  refine ⟨⟨.zero _ l, rfl, rfl, rfl⟩, fun x => br_of (fun h => ?_) fun h => ?_⟩
  · have h : x.1 < l.length := by simpa using h
    rw [Int.toNat_natCast]
    exact ⟨⟨by omega, by omega⟩, h, br_of (fun h1 => (x.hitZ h h1).symm) fun h1 => ⟨by simp only [inR]; omega, x.next default h h1, ⟨rfl, rfl, rfl⟩, by show l.length - (x.1 + 1) < _; omega⟩⟩
  · exact (x.overZ (by simpa using h)).symm)
def sp_untilR : FSpec := ⟨[], fun | [.one (.rd (.ivs l)), .one (.fnv 112 [(9, .str c)])] => some ([Asc c, l.length ≤ 1000000000], .one (.int .i64 (l.findIdx fun y => !isIn c y))) | _ => none⟩
theorem vc_untilR (l : List Iv) (c : List UInt8) : vcP [(84, sp_idxR)] [] misc Tryz.f60 (.nil) [.one (.rd (.ivs l)), .one (.fnv 112 [(9, .str c)])] (.one (.int .i64 (l.findIdx fun y => !isIn c y))) = ((∀ (c_1 : UInt8), c_1 ∈ c → UInt8.toNat c_1 < (128 : Nat)) ∧ List.length l ≤ (1000000000 : Nat) ∧ br (decide (idxZ (fun (y : Iv) => !isIn c y) l ≥ (0 : Int))) (idxZ (fun (y : Iv) => !isIn c y) l = (↑(List.findIdx (fun (y : Iv) => !isIn c y) l) : Int)) ((↑(List.length l) : Int) = (↑(List.findIdx (fun (y : Iv) => !isIn c y) l) : Int))) := by kernel_rfl
set_option maxHeartbeats 4000000 in
theorem of_untilR (h : ∀ (l : List Iv) (c : List UInt8), (Asc c) → (l.length ≤ 1000000000) → vcP [(84, sp_idxR)] [] misc Tryz.f60 (.nil) [.one (.rd (.ivs l)), .one (.fnv 112 [(9, .str c)])] (.one (.int .i64 (l.findIdx fun y => !isIn c y)))) : FnP 60 sp_untilR := by
  refine fnP_ok (cs := [(84, sp_idxR)]) (cas := []) (ms := misc) (.cons ok_idxR .nil) .nil misc_ok 60 Tryz.f60 (by kernel_rfl) (by kernel_rfl) (by kernel_rfl) (fun _ => .nil) ?_
  intro pvs p r hs hp
  unfold sp_untilR at hs
  simp only at hs
  split at hs
  · rename_i l c
    cases hs
    refine h l c ?_ ?_
    · exact hp.1
    · exact hp.2
  · cases hs
def sp_untilA : FSpec := ⟨[], fun | [.one (.rd (.ivs l)), .one (.fnv 61 [])] => some ([l.length ≤ 1000000000], .one (.int .i64 (l.findIdx (isIn [59])))) | _ => none⟩
theorem vc_untilA (l : List Iv) : vcP [(84, sp_idxA)] [] misc Tryz.f60 (.nil) [.one (.rd (.ivs l)), .one (.fnv 61 [])] (.one (.int .i64 (l.findIdx (isIn [59])))) = (List.length l ≤ (1000000000 : Nat) ∧ br (decide (idxZ (isIn [(59 : UInt8)]) l ≥ (0 : Int))) (idxZ (isIn [(59 : UInt8)]) l = (↑(List.findIdx (isIn [(59 : UInt8)]) l) : Int)) ((↑(List.length l) : Int) = (↑(List.findIdx (isIn [(59 : UInt8)]) l) : Int))) := by kernel_rfl
set_option maxHeartbeats 4000000 in
theorem of_untilA (h : ∀ (l : List Iv), (l.length ≤ 1000000000) → vcP [(84, sp_idxA)] [] misc Tryz.f60 (.nil) [.one (.rd (.ivs l)), .one (.fnv 61 [])] (.one (.int .i64 (l.findIdx (isIn [59]))))) : FnP 60 sp_untilA := by
  refine fnP_ok (cs := [(84, sp_idxA)]) (cas := []) (ms := misc) (.cons ok_idxA .nil) .nil misc_ok 60 Tryz.f60 (by kernel_rfl) (by kernel_rfl) (by kernel_rfl) (fun _ => .nil) ?_
  intro pvs p r hs hp
  unfold sp_untilA at hs
  simp only at hs
  split at hs
  · rename_i l
    cases hs
    refine h l ?_
    · exact hp
  · cases hs
theorem until_of {P : Iv → Bool} {l : List Iv} : br (decide (idxZ P l ≥ 0)) (idxZ P l = (l.findIdx P : Int)) ((l.length : Int) = (l.findIdx P : Int)) := by
  unfold idxZ
  have := List.findIdx_le_length (p := P) (xs := l)
  split
  · exact br_of (fun _ => rfl) fun h => by simp at h
  · exact br_of (fun h => by simp at h) fun h => by omega
theorem ok_untilR : FnP 60 sp_untilR := of_untilR (by
  intro l c hc hl
  rw [vc_untilR]
  exact ⟨hc, hl, until_of⟩)
theorem ok_untilA : FnP 60 sp_untilA := of_untilA (by
  intro l hl
  rw [vc_untilA]
  exact ⟨hl, until_of⟩)
def runN (l : List Iv) (c : List UInt8) : Nat := l.findIdx fun y => !isIn c y
def sp_run : FSpec := ⟨[], fun | [.one (.rd (.ivs l)), .one (.str c)] => some ([Asc c, l.length ≤ 1000000000], .one (.int .i64 (runN l c))) | _ => none⟩
theorem vc_run (l : List Iv) (c : List UInt8) : vcP [(60, sp_untilR)] [] misc Tryz.f87 (.nil) [.one (.rd (.ivs l)), .one (.str c)] (.one (.int .i64 (runN l c))) = ((∀ (c_1 : UInt8), c_1 ∈ c → UInt8.toNat c_1 < (128 : Nat)) ∧ List.length l ≤ (1000000000 : Nat) ∧ (↑(List.findIdx (fun (y : Iv) => !isIn c y) l) : Int) = (↑(runN l c) : Int)) := by kernel_rfl
set_option maxHeartbeats 4000000 in
theorem of_run (h : ∀ (l : List Iv) (c : List UInt8), (Asc c) → (l.length ≤ 1000000000) → vcP [(60, sp_untilR)] [] misc Tryz.f87 (.nil) [.one (.rd (.ivs l)), .one (.str c)] (.one (.int .i64 (runN l c)))) : FnP 87 sp_run := by
  refine fnP_ok (cs := [(60, sp_untilR)]) (cas := []) (ms := misc) (.cons ok_untilR .nil) .nil misc_ok 87 Tryz.f87 (by kernel_rfl) (by kernel_rfl) (by kernel_rfl) (fun _ => .nil) ?_
  intro pvs p r hs hp
  unfold sp_run at hs
  simp only at hs
  split at hs
  · rename_i l c
    cases hs
    refine h l c ?_ ?_
    · exact hp.1
    · exact hp.2
  · cases hs
def sp_ahead : FSpec := ⟨[], fun | [.one (.rd (.ivs l))] => some ([l.length ≤ 1000000000], .one (.int .i64 (l.findIdx (isIn [59])))) | _ => none⟩
theorem vc_ahead (l : List Iv) : vcP [(60, sp_untilA)] [] misc Tryz.f32 (.nil) [.one (.rd (.ivs l))] (.one (.int .i64 (l.findIdx (isIn [59])))) = (List.length l ≤ (1000000000 : Nat) ∧ (↑(List.findIdx (isIn [(59 : UInt8)]) l) : Int) = (↑(List.findIdx (isIn [(59 : UInt8)]) l) : Int)) := by kernel_rfl
set_option maxHeartbeats 4000000 in
theorem of_ahead (h : ∀ (l : List Iv), (l.length ≤ 1000000000) → vcP [(60, sp_untilA)] [] misc Tryz.f32 (.nil) [.one (.rd (.ivs l))] (.one (.int .i64 (l.findIdx (isIn [59]))))) : FnP 32 sp_ahead := by
  refine fnP_ok (cs := [(60, sp_untilA)]) (cas := []) (ms := misc) (.cons ok_untilA .nil) .nil misc_ok 32 Tryz.f32 (by kernel_rfl) (by kernel_rfl) (by kernel_rfl) (fun _ => .nil) ?_
  intro pvs p r hs hp
  unfold sp_ahead at hs
  simp only at hs
  split at hs
  · rename_i l
    cases hs
    refine h l ?_
    · exact hp
  · cases hs
theorem ok_run : FnP 87 sp_run := of_run (by
  intro l c hc hl
  rw [vc_run]
  exact ⟨hc, hl, rfl⟩)
theorem ok_ahead : FnP 32 sp_ahead := of_ahead (by
  intro l hl
  rw [vc_ahead]
  exact ⟨hl, rfl⟩)
/-! ### text, plain, elements -/
def sp_text : FSpec := ⟨[], fun | [.one (.rd (.ivs l))] => some ([(∀ y ∈ l, y.isS = true ∧ scalar y.sR = true), l.length ≤ 1000000000], .one (.str (encs (l.map Iv.sR)))) | _ => none⟩
theorem vc_text (l : List Iv) : vcP [] [(104, sp_writeRune), (107, sp_bstr)] misc Tryz.f88 (.loop 3 (Upto l) (fun i => ⟨[(3, .one (.ptr 17 0)), (6, .one (.slc 0)), (7, .one (.int .i64 l.length)), (8, .one (.int .i64 i.1))], [(0, some (.read (.ivs l))), (17, some (.cells 149 [.mp 17 (decide (0 < i.1)), .slc 18])), (18, some (.row 5 (.ints .u8 (bys ((l.take i.1).map Iv.sR)))))], 19⟩) (fun i => l.length - i.1) (fun _ => .nil) .nil) [.one (.rd (.ivs l))] (.one (.str (encs (l.map Iv.sR)))) = ((∃ (x : Upto l), (↑(List.length l) : Int) = (↑(List.length l) : Int) ∧ (0 : Int) = (↑(Subtype.val x) : Int) ∧ l = l ∧ false = decide ((0 : Nat) < Subtype.val x) ∧ [] = bys (List.map Iv.sR (List.take (Subtype.val x) l))) ∧ ∀ (x : Upto l), br (decide ((↑(Subtype.val x) : Int) < (↑(List.length l) : Int))) (((0 : Int) ≤ (↑(Subtype.val x) : Int) ∧ (↑(Subtype.val x) : Int) < (↑(List.length l) : Int)) ∧ Int.toNat (↑(Subtype.val x) : Int) < List.length l ∧ Iv.isS (List.getD l (Int.toNat (↑(Subtype.val x) : Int)) default) = true ∧ scalar (Iv.sR (List.getD l (Int.toNat (↑(Subtype.val x) : Int)) default)) = true ∧ List.length (bys (List.map Iv.sR (List.take (Subtype.val x) l))) ≤ (1000000000000 : Nat) ∧ inR IntKind.i64 ((↑(Subtype.val x) : Int) + (1 : Int)) ∧ ∃ (x' : Upto l), ((↑(List.length l) : Int) = (↑(List.length l) : Int) ∧ (↑(Subtype.val x) : Int) + (1 : Int) = (↑(Subtype.val x') : Int) ∧ l = l ∧ true = decide ((0 : Nat) < Subtype.val x') ∧ bys (List.map Iv.sR (List.take (Subtype.val x) l)) ++ Lib.encodeRuneZ (Iv.sR (List.getD l (Int.toNat (↑(Subtype.val x) : Int)) default)) = bys (List.map Iv.sR (List.take (Subtype.val x') l))) ∧ List.length l - Subtype.val x' < List.length l - Subtype.val x) ((∀ (n : Int), n ∈ bys (List.map Iv.sR (List.take (Subtype.val x) l)) → (0 : Int) ≤ n ∧ n < (256 : Int)) ∧ u8s (bys (List.map Iv.sR (List.take (Subtype.val x) l))) = encs (List.map Iv.sR l))) := by kernel_rfl
set_option maxHeartbeats 4000000 in
theorem of_text (h : ∀ (l : List Iv), ((∀ y ∈ l, y.isS = true ∧ scalar y.sR = true)) → (l.length ≤ 1000000000) → vcP [] [(104, sp_writeRune), (107, sp_bstr)] misc Tryz.f88 (.loop 3 (Upto l) (fun i => ⟨[(3, .one (.ptr 17 0)), (6, .one (.slc 0)), (7, .one (.int .i64 l.length)), (8, .one (.int .i64 i.1))], [(0, some (.read (.ivs l))), (17, some (.cells 149 [.mp 17 (decide (0 < i.1)), .slc 18])), (18, some (.row 5 (.ints .u8 (bys ((l.take i.1).map Iv.sR)))))], 19⟩) (fun i => l.length - i.1) (fun _ => .nil) .nil) [.one (.rd (.ivs l))] (.one (.str (encs (l.map Iv.sR))))) : FnP 88 sp_text := by
  refine fnP_ok (cs := []) (cas := [(104, sp_writeRune), (107, sp_bstr)]) (ms := misc) .nil (.cons ok_writeRune (.cons ok_bstr .nil)) misc_ok 88 Tryz.f88 (by kernel_rfl) (by kernel_rfl) (by kernel_rfl) (fun | [.one (.rd (.ivs l))] => .loop 3 (Upto l) (fun i => ⟨[(3, .one (.ptr 17 0)), (6, .one (.slc 0)), (7, .one (.int .i64 l.length)), (8, .one (.int .i64 i.1))], [(0, some (.read (.ivs l))), (17, some (.cells 149 [.mp 17 (decide (0 < i.1)), .slc 18])), (18, some (.row 5 (.ints .u8 (bys ((l.take i.1).map Iv.sR)))))], 19⟩) (fun i => l.length - i.1) (fun _ => .nil) .nil | _ => .nil) ?_
  intro pvs p r hs hp
  unfold sp_text at hs
  simp only at hs
  split at hs
  · rename_i l
    cases hs
    refine h l ?_ ?_
    · exact hp.1
    · exact hp.2
  · cases hs
def plainT (l : List Iv) : List Tok := (l.filter Iv.isS).map Iv.tok
def sp_plain : FSpec := ⟨[], fun | [.one (.rd (.ivs l))] => some ([l.length ≤ 1000000000], .one (.rd (.toks (plainT l)))) | _ => none⟩
theorem vc_plain (l : List Iv) : vcP [] [] misc Tryz.f66 (.loop 3 (Upto l) (fun i => ⟨[(3, .one (.slc 17)), (8, .one (.slc 0)), (9, .one (.int .i64 l.length)), (10, .one (.int .i64 i.1))], [(0, some (.read (.ivs l))), (17, some (.row 71 (.toks (plainT (l.take i.1)))))], 18⟩) (fun i => l.length - i.1) (fun _ => .nil) .nil) [.one (.rd (.ivs l))] (.one (.rd (.toks (plainT l)))) = ((∃ (x : Upto l), (↑(List.length l) : Int) = (↑(List.length l) : Int) ∧ (0 : Int) = (↑(Subtype.val x) : Int) ∧ l = l ∧ plainT (List.take (Subtype.val x) l) = []) ∧ ∀ (x : Upto l), br (decide ((↑(Subtype.val x) : Int) < (↑(List.length l) : Int))) (((0 : Int) ≤ (↑(Subtype.val x) : Int) ∧ (↑(Subtype.val x) : Int) < (↑(List.length l) : Int)) ∧ Int.toNat (↑(Subtype.val x) : Int) < List.length l ∧ br (Iv.isS (List.getD l (Int.toNat (↑(Subtype.val x) : Int)) default)) ((List.length (plainT (List.take (Subtype.val x) l)) + (1 : Nat)) * (16 : Nat) ≤ (140737488355328 : Nat) ∧ inR IntKind.i64 ((↑(Subtype.val x) : Int) + (1 : Int)) ∧ ∃ (x' : Upto l), ((↑(List.length l) : Int) = (↑(List.length l) : Int) ∧ (↑(Subtype.val x) : Int) + (1 : Int) = (↑(Subtype.val x') : Int) ∧ l = l ∧ plainT (List.take (Subtype.val x) l) ++ [{ r := Iv.sR (List.getD l (Int.toNat (↑(Subtype.val x) : Int)) default), q := Iv.sQ (List.getD l (Int.toNat (↑(Subtype.val x) : Int)) default), p := Iv.sP (List.getD l (Int.toNat (↑(Subtype.val x) : Int)) default) }] = plainT (List.take (Subtype.val x') l)) ∧ List.length l - Subtype.val x' < List.length l - Subtype.val x) (inR IntKind.i64 ((↑(Subtype.val x) : Int) + (1 : Int)) ∧ ∃ (x' : Upto l), ((↑(List.length l) : Int) = (↑(List.length l) : Int) ∧ (↑(Subtype.val x) : Int) + (1 : Int) = (↑(Subtype.val x') : Int) ∧ l = l ∧ plainT (List.take (Subtype.val x) l) = plainT (List.take (Subtype.val x') l)) ∧ List.length l - Subtype.val x' < List.length l - Subtype.val x)) (plainT (List.take (Subtype.val x) l) = plainT l)) := by kernel_rfl
set_option maxHeartbeats 4000000 in
theorem of_plain (h : ∀ (l : List Iv), (l.length ≤ 1000000000) → vcP [] [] misc Tryz.f66 (.loop 3 (Upto l) (fun i => ⟨[(3, .one (.slc 17)), (8, .one (.slc 0)), (9, .one (.int .i64 l.length)), (10, .one (.int .i64 i.1))], [(0, some (.read (.ivs l))), (17, some (.row 71 (.toks (plainT (l.take i.1)))))], 18⟩) (fun i => l.length - i.1) (fun _ => .nil) .nil) [.one (.rd (.ivs l))] (.one (.rd (.toks (plainT l))))) : FnP 66 sp_plain := by
  refine fnP_ok (cs := []) (cas := []) (ms := misc) .nil .nil misc_ok 66 Tryz.f66 (by kernel_rfl) (by kernel_rfl) (by kernel_rfl) (fun | [.one (.rd (.ivs l))] => .loop 3 (Upto l) (fun i => ⟨[(3, .one (.slc 17)), (8, .one (.slc 0)), (9, .one (.int .i64 l.length)), (10, .one (.int .i64 i.1))], [(0, some (.read (.ivs l))), (17, some (.row 71 (.toks (plainT (l.take i.1)))))], 18⟩) (fun i => l.length - i.1) (fun _ => .nil) .nil | _ => .nil) ?_
  intro pvs p r hs hp
  unfold sp_plain at hs
  simp only at hs
  split at hs
  · rename_i l
    cases hs
    refine h l ?_
    · exact hp
  · cases hs
def isStar (t : Tok) : Bool := !t.q && t.r == 42
def Tok.sg (t : Tok) : Iv := .single t.r t.q t.p
def elemsL : List Tok → List Iv × Option Int
  | [] => ([], none)
  | [t] => if isStar t then ([], some t.p) else ([t.sg], none)
  | t :: x :: m =>
    if isStar t then (.padding x.r t.p :: (elemsL m).1, (elemsL m).2)
    else (t.sg :: (elemsL (x :: m)).1, (elemsL (x :: m)).2)
def elemsR (l : List Tok) : List Iv × Int × Int :=
  match (elemsL l).2 with
  | none => ((elemsL l).1, 0, 0)
  | some p => ([], 7, p)
structure ES (l : List Tok) where
  n : Nat
  ps : List Iv
  le : n ≤ l.length
  few : ps.length ≤ n
  fin1 : ps ++ (elemsL (l.drop n)).1 = (elemsL l).1
  fin2 : (elemsL (l.drop n)).2 = (elemsL l).2
def sp_elements : FSpec := ⟨[], fun | [.one (.rd (.toks l))] => some ([l.length ≤ 1000000000], .tup [(false, [.rd (.ivs (elemsR l).1)]), (true, [.int .i64 (elemsR l).2.1, .int .i64 (elemsR l).2.2])]) | _ => none⟩
theorem vc_elements (l : List Tok) : vcP [] [] misc Tryz.f31 (.loop 3 (ES l) (fun x => ⟨[(0, .one (.slc 0)), (3, .one (.ptr 16 0)), (4, .one (.slc 17)), (5, .one (.int .i64 x.n))], [(0, some (.read (.toks l))), (16, some (.cells 28 [.int .i64 0, .int .i64 0])), (17, some (.row 57 (.ivs x.ps)))], 18⟩) (fun x => l.length - x.n) (fun _ => .nil) .nil) [.one (.rd (.toks l))] (.tup [(false, [.rd (.ivs (elemsR l).1)]), (true, [.int .i64 (elemsR l).2.1, .int .i64 (elemsR l).2.2])]) = ((∃ (x : ES l), (0 : Int) = (↑(ES.n x) : Int) ∧ l = l ∧ (0 : Int) = (0 : Int) ∧ (0 : Int) = (0 : Int) ∧ ES.ps x = []) ∧ ∀ (x : ES l), br (decide ((↑(ES.n x) : Int) < (↑(List.length l) : Int))) (((0 : Int) ≤ (↑(ES.n x) : Int) ∧ (↑(ES.n x) : Int) < (↑(List.length l) : Int)) ∧ Int.toNat (↑(ES.n x) : Int) < List.length l ∧ br (Tok.q (List.getD l (Int.toNat (↑(ES.n x) : Int)) default)) ((List.length (ES.ps x) + (1 : Nat)) * (16 : Nat) ≤ (140737488355328 : Nat) ∧ inR IntKind.i64 ((↑(ES.n x) : Int) + (1 : Int)) ∧ ∃ (x' : ES l), ((↑(ES.n x) : Int) + (1 : Int) = (↑(ES.n x') : Int) ∧ l = l ∧ (0 : Int) = (0 : Int) ∧ (0 : Int) = (0 : Int) ∧ ES.ps x ++ [Iv.single (Tok.r (List.getD l (Int.toNat (↑(ES.n x) : Int)) default)) (Tok.q (List.getD l (Int.toNat (↑(ES.n x) : Int)) default)) (Tok.p (List.getD l (Int.toNat (↑(ES.n x) : Int)) default))] = ES.ps x') ∧ List.length l - ES.n x' < List.length l - ES.n x) (br (Tok.r (List.getD l (Int.toNat (↑(ES.n x) : Int)) default) != (42 : Int)) ((List.length (ES.ps x) + (1 : Nat)) * (16 : Nat) ≤ (140737488355328 : Nat) ∧ inR IntKind.i64 ((↑(ES.n x) : Int) + (1 : Int)) ∧ ∃ (x' : ES l), ((↑(ES.n x) : Int) + (1 : Int) = (↑(ES.n x') : Int) ∧ l = l ∧ (0 : Int) = (0 : Int) ∧ (0 : Int) = (0 : Int) ∧ ES.ps x ++ [Iv.single (Tok.r (List.getD l (Int.toNat (↑(ES.n x) : Int)) default)) (Tok.q (List.getD l (Int.toNat (↑(ES.n x) : Int)) default)) (Tok.p (List.getD l (Int.toNat (↑(ES.n x) : Int)) default))] = ES.ps x') ∧ List.length l - ES.n x' < List.length l - ES.n x) (inR IntKind.i64 ((↑(ES.n x) : Int) + (1 : Int)) ∧ br ((↑(ES.n x) : Int) + (1 : Int) == (↑(List.length l) : Int)) ([] = (elemsR l).1 ∧ (7 : Int) = (elemsR l).2.1 ∧ Tok.p (List.getD l (Int.toNat (↑(ES.n x) : Int)) default) = (elemsR l).2.2) (inR IntKind.i64 ((↑(ES.n x) : Int) + (1 : Int)) ∧ ((0 : Int) ≤ (↑(ES.n x) : Int) + (1 : Int) ∧ (↑(ES.n x) : Int) + (1 : Int) < (↑(List.length l) : Int)) ∧ Int.toNat ((↑(ES.n x) : Int) + (1 : Int)) < List.length l ∧ (List.length (ES.ps x) + (1 : Nat)) * (16 : Nat) ≤ (140737488355328 : Nat) ∧ inR IntKind.i64 ((↑(ES.n x) : Int) + (1 : Int) + (1 : Int)) ∧ ∃ (x' : ES l), ((↑(ES.n x) : Int) + (1 : Int) + (1 : Int) = (↑(ES.n x') : Int) ∧ l = l ∧ (0 : Int) = (0 : Int) ∧ (0 : Int) = (0 : Int) ∧ ES.ps x ++ [Iv.padding (Tok.r (List.getD l (Int.toNat ((↑(ES.n x) : Int) + (1 : Int))) default)) (Tok.p (List.getD l (Int.toNat (↑(ES.n x) : Int)) default))] = ES.ps x') ∧ List.length l - ES.n x' < List.length l - ES.n x)))) (ES.ps x = (elemsR l).1 ∧ (0 : Int) = (elemsR l).2.1 ∧ (0 : Int) = (elemsR l).2.2)) := by kernel_rfl
set_option maxHeartbeats 4000000 in
theorem of_elements (h : ∀ (l : List Tok), (l.length ≤ 1000000000) → vcP [] [] misc Tryz.f31 (.loop 3 (ES l) (fun x => ⟨[(0, .one (.slc 0)), (3, .one (.ptr 16 0)), (4, .one (.slc 17)), (5, .one (.int .i64 x.n))], [(0, some (.read (.toks l))), (16, some (.cells 28 [.int .i64 0, .int .i64 0])), (17, some (.row 57 (.ivs x.ps)))], 18⟩) (fun x => l.length - x.n) (fun _ => .nil) .nil) [.one (.rd (.toks l))] (.tup [(false, [.rd (.ivs (elemsR l).1)]), (true, [.int .i64 (elemsR l).2.1, .int .i64 (elemsR l).2.2])])) : FnP 31 sp_elements := by
  refine fnP_ok (cs := []) (cas := []) (ms := misc) .nil .nil misc_ok 31 Tryz.f31 (by kernel_rfl) (by kernel_rfl) (by kernel_rfl) (fun | [.one (.rd (.toks l))] => .loop 3 (ES l) (fun x => ⟨[(0, .one (.slc 0)), (3, .one (.ptr 16 0)), (4, .one (.slc 17)), (5, .one (.int .i64 x.n))], [(0, some (.read (.toks l))), (16, some (.cells 28 [.int .i64 0, .int .i64 0])), (17, some (.row 57 (.ivs x.ps)))], 18⟩) (fun x => l.length - x.n) (fun _ => .nil) .nil | _ => .nil) ?_
  intro pvs p r hs hp
  unfold sp_elements at hs
  simp only at hs
  split at hs
  · rename_i l
    cases hs
    refine h l ?_
    · exact hp
  · cases hs
theorem ok_text : FnP 88 sp_text := of_text (by
  intro l hl hn
  rw [vc_text]
  refine ⟨⟨⟨0, Nat.zero_le _⟩, rfl, rfl, rfl, rfl, rfl⟩, fun i => br_of (fun h => ?_) fun h => ?_⟩
  · have h : i.1 < l.length := by simpa using h
    obtain ⟨h1, h2⟩ := hl _ (getD_mem' (d := default) h)
    have := bys_len ((l.take i.1).map Iv.sR)
    have h3 : ((l.take i.1).map Iv.sR).length ≤ l.length := by simp; omega
    rw [Int.toNat_natCast]
    refine ⟨⟨by omega, by omega⟩, h, h1, h2, by omega, by simp only [inR]; omega, ⟨i.1 + 1, by omega⟩, ⟨rfl, rfl, rfl, by simp, ?_⟩, by show l.length - (i.1 + 1) < l.length - i.1; omega⟩
    show _ = bys ((l.take (i.1 + 1)).map Iv.sR)
    rw [take_next l default h, List.map_append, bys_append]
    show _ = _ ++ bys [_]
    rw [bys_one]
  · have h : ¬ i.1 < l.length := by simpa using h
    rw [List.take_of_length_le (by omega)]
    exact ⟨bys_bytes _, u8s_bys _⟩)
theorem plainT_next {l : List Iv} {i : Nat} (h : i < l.length) : plainT (l.take (i + 1)) = plainT (l.take i) ++ if (l.getD i default).isS then [(l.getD i default).tok] else [] := by
  unfold plainT
  rw [take_next l default h, List.filter_append, List.map_append]
  congr 1
  by_cases hb : (l.getD i default).isS = true
  · rw [if_pos hb, List.filter_cons_of_pos hb]; rfl
  · rw [if_neg hb, List.filter_cons_of_neg hb]; rfl
theorem plainT_len (l : List Iv) : (plainT l).length ≤ l.length := by
  unfold plainT
  rw [List.length_map]
  exact List.length_filter_le _ _
theorem tok_single {y : Iv} (h : y.isS = true) : (⟨y.sR, y.sQ, y.sP⟩ : Tok) = y.tok := by
  cases y <;> first | rfl | cases h
theorem ok_plain : FnP 66 sp_plain := of_plain (by
  intro l hn
  rw [vc_plain]
  refine ⟨⟨⟨0, Nat.zero_le _⟩, rfl, rfl, rfl, rfl⟩, fun i => br_of (fun h => ?_) fun h => ?_⟩
  · have h : i.1 < l.length := by simpa using h
    have h1 := plainT_len (l.take i.1)
    have h2 : (l.take i.1).length ≤ l.length := by simp; omega
    have h3 := plainT_next h
    rw [Int.toNat_natCast]
    refine ⟨⟨by omega, by omega⟩, h, br_of (fun hb => ?_) fun hb => ?_⟩
    · refine ⟨by omega, by simp only [inR]; omega, ⟨i.1 + 1, h⟩, ⟨rfl, rfl, rfl, ?_⟩, by show l.length - (i.1 + 1) < l.length - i.1; omega⟩
      show _ = plainT (l.take (i.1 + 1))
      rw [h3, if_pos hb, tok_single hb]
    · refine ⟨by simp only [inR]; omega, ⟨i.1 + 1, h⟩, ⟨rfl, rfl, rfl, ?_⟩, by show l.length - (i.1 + 1) < l.length - i.1; omega⟩
      show _ = plainT (l.take (i.1 + 1))
      rw [h3, if_neg (by rw [hb]; decide), List.append_nil]
  · have h : ¬ i.1 < l.length := by simpa using h
    rw [List.take_of_length_le (by omega)])
theorem elemsL_other {t : Tok} {m : List Tok} (h : isStar t = false) : elemsL (t :: m) = (t.sg :: (elemsL m).1, (elemsL m).2) := by
  cases m with
  | nil => unfold elemsL; rw [if_neg (by rw [h]; decide)]
  | cons x m => rw [elemsL, if_neg (by rw [h]; decide)]
theorem elemsL_end {t : Tok} (h : isStar t = true) : elemsL [t] = ([], some t.p) := by unfold elemsL; rw [if_pos h]
theorem elemsL_star {t x : Tok} {m : List Tok} (h : isStar t = true) : elemsL (t :: x :: m) = (.padding x.r t.p :: (elemsL m).1, (elemsL m).2) := by rw [elemsL, if_pos h]
theorem drop_next {α : Type} (l : List α) (d : α) {i : Nat} (h : i < l.length) : l.drop i = l.getD i d :: l.drop (i + 1) := by
  rw [List.drop_eq_getElem_cons h, List.getD_eq_getElem?_getD, List.getElem?_eq_getElem h]; rfl
def ES.one {l : List Tok} (x : ES l) (h : x.n < l.length) (hs : isStar (l.getD x.n default) = false) : ES l where
  n := x.n + 1
  ps := x.ps ++ [(l.getD x.n default).sg]
  le := h
  few := by have := x.few; simp; omega
  fin1 := by
    have h1 := x.fin1
    rw [drop_next l default h, elemsL_other hs] at h1
    rw [List.append_assoc]; exact h1
  fin2 := by
    have h1 := x.fin2
    rw [drop_next l default h, elemsL_other hs] at h1
    exact h1
def ES.two {l : List Tok} (x : ES l) (h : x.n + 1 < l.length) (hs : isStar (l.getD x.n default) = true) : ES l where
  n := x.n + 1 + 1
  ps := x.ps ++ [.padding (l.getD (x.n + 1) default).r (l.getD x.n default).p]
  le := h
  few := by have := x.few; simp; omega
  fin1 := by
    have h1 := x.fin1
    rw [drop_next l default (by omega), drop_next l default h, elemsL_star hs] at h1
    rw [List.append_assoc]; exact h1
  fin2 := by
    have h1 := x.fin2
    rw [drop_next l default (by omega), drop_next l default h, elemsL_star hs] at h1
    exact h1
theorem ok_elements : FnP 31 sp_elements := of_elements (by
  intro l hn
  rw [vc_elements]
  refine ⟨⟨⟨0, [], Nat.zero_le _, Nat.le_refl _, rfl, rfl⟩, rfl, rfl, rfl, rfl, rfl⟩, fun x => br_of (fun h => ?_) fun h => ?_⟩
  · have h : x.n < l.length := by simpa using h
    have hf := x.few
    rw [Int.toNat_natCast]
    have hone : ∀ hs : isStar (l.getD x.n default) = false, (x.ps.length + 1) * 16 ≤ 140737488355328 ∧ inR .i64 ((x.n : Int) + 1) ∧ ∃ (x' : ES l), ((x.n : Int) + 1 = (x'.n : Int) ∧ l = l ∧ (0 : Int) = 0 ∧ (0 : Int) = 0 ∧ x.ps ++ [Iv.single (l.getD x.n default).r (l.getD x.n default).q (l.getD x.n default).p] = x'.ps) ∧ l.length - x'.n < l.length - x.n := fun hs =>
      ⟨by omega, by simp only [inR]; omega, x.one h hs, ⟨rfl, rfl, rfl, rfl, rfl⟩, by show l.length - (x.n + 1) < _; omega⟩
    refine ⟨⟨by omega, by omega⟩, h, br_of (fun h1 => hone (by unfold isStar; rw [h1]; rfl)) fun h1 => br_of (fun h2 => hone (by unfold isStar; rw [h1]; simpa using h2)) fun h2 => ⟨by simp only [inR]; omega, br_of (fun h3 => ?_) fun h3 => ?_⟩⟩
    · have hs : isStar (l.getD x.n default) = true := by unfold isStar; rw [h1]; simpa using h2
      have h3 : x.n + 1 = l.length := by have := eq_of_beq h3; omega
      have h4 := x.fin2
      rw [drop_next l default h, List.drop_of_length_le (by omega), elemsL_end hs] at h4
      unfold elemsR
      rw [← h4]
      exact ⟨rfl, rfl, rfl⟩
    · have hs : isStar (l.getD x.n default) = true := by unfold isStar; rw [h1]; simpa using h2
      have h3 : x.n + 1 < l.length := by
        have : ¬ ((x.n : Int) + 1 = (l.length : Int)) := by simpa using h3
        omega
      rw [show ((x.n : Int) + 1).toNat = x.n + 1 by omega]
      exact ⟨by simp only [inR]; omega, ⟨by omega, by omega⟩, h3, by omega, by simp only [inR]; omega, x.two h3 hs, ⟨rfl, rfl, rfl, rfl, rfl⟩, by show l.length - (x.n + 1 + 1) < _; omega⟩
  · have h : ¬ x.n < l.length := by simpa using h
    have h1 := x.fin1
    have h2 := x.fin2
    rw [List.drop_of_length_le (by omega)] at h1 h2
    have h1 : x.ps ++ [] = (elemsL l).1 := h1
    have h2 : none = (elemsL l).2 := h2
    unfold elemsR
    rw [← h2, ← h1, List.append_nil]
    exact ⟨rfl, rfl, rfl⟩)
/-! ### padding -/
def spotsN (N : Nat) (a b : Int) : Nat → List Iv → List Spot
  | _, [] => []
  | n, y :: l => (if y.isP then [⟨y.pR, y.pP, if n = 0 then a else if n + 1 = N then b else 0⟩] else []) ++ spotsN N a b (n + 1) l
structure PS (l : List Iv) (a b : Int) where
  n : Nat
  ds : List Spot
  le : n ≤ l.length
  few : ds.length ≤ n
  fin : ds ++ spotsN l.length a b n (l.drop n) = spotsN l.length a b 0 l
def sp_spots1 : ASpec := ⟨fun | [.one (.slc 0), .one (.int .i64 a), .one (.int .i64 b), .one (.ptr 1 0)], [(0, some (.read (.ivs l))), (1, some (.cells 135 [.slc 2])), (2, some (.row 62 (.spots ps)))] => some ([l.length ≤ 1000000000, ps.length ≤ 1000000000], .tup [], [(0, some (.read (.ivs l))), (1, some (.cells 135 [.slc 16])), (16, some (.row 62 (.spots (ps ++ spotsN l.length a b 0 l))))]) | _, _ => none⟩
theorem vc_spots1 (l : List Iv) (a b : Int) (ps : List Spot) : vcA [] [] misc Tryz.f113 (.loop 1 (PS l a b) (fun x => ⟨[(0, .one (.slc 0)), (1, .one (.int .i64 a)), (2, .one (.int .i64 b)), (3, .one (.ptr 1 0)), (11, .one (.slc 0)), (12, .one (.int .i64 l.length)), (13, .one (.int .i64 x.n))], [(0, some (.read (.ivs l))), (1, some (.cells 135 [.slc 17])), (17, some (.row 62 (.spots (ps ++ x.ds))))], 18⟩) (fun x => l.length - x.n) (fun _ => .nil) .nil) [.one (.slc 0), .one (.int .i64 a), .one (.int .i64 b), .one (.ptr 1 0)] [(0, some (.read (.ivs l))), (1, some (.cells 135 [.slc 2])), (2, some (.row 62 (.spots ps)))] (.tup []) [(0, some (.read (.ivs l))), (1, some (.cells 135 [.slc 16])), (16, some (.row 62 (.spots (ps ++ spotsN l.length a b 0 l))))] = ((∃ (x : PS l a b), a = a ∧ b = b ∧ (↑(List.length l) : Int) = (↑(List.length l) : Int) ∧ (0 : Int) = (↑(PS.n x) : Int) ∧ l = l ∧ ps = ps ++ PS.ds x) ∧ ∀ (x : PS l a b), br (decide ((↑(PS.n x) : Int) < (↑(List.length l) : Int))) (((0 : Int) ≤ (↑(PS.n x) : Int) ∧ (↑(PS.n x) : Int) < (↑(List.length l) : Int)) ∧ Int.toNat (↑(PS.n x) : Int) < List.length l ∧ br (!Iv.isP (List.getD l (Int.toNat (↑(PS.n x) : Int)) default)) (inR IntKind.i64 ((↑(PS.n x) : Int) + (1 : Int)) ∧ ∃ (x' : PS l a b), (a = a ∧ b = b ∧ (↑(List.length l) : Int) = (↑(List.length l) : Int) ∧ (↑(PS.n x) : Int) + (1 : Int) = (↑(PS.n x') : Int) ∧ l = l ∧ ps ++ PS.ds x = ps ++ PS.ds x') ∧ List.length l - PS.n x' < List.length l - PS.n x) (br ((↑(PS.n x) : Int) == (0 : Int)) ((List.length (ps ++ PS.ds x) + (1 : Nat)) * (24 : Nat) ≤ (140737488355328 : Nat) ∧ inR IntKind.i64 ((↑(PS.n x) : Int) + (1 : Int)) ∧ ∃ (x' : PS l a b), (a = a ∧ b = b ∧ (↑(List.length l) : Int) = (↑(List.length l) : Int) ∧ (↑(PS.n x) : Int) + (1 : Int) = (↑(PS.n x') : Int) ∧ l = l ∧ ps ++ PS.ds x ++ [{ r := Iv.pR (List.getD l (Int.toNat (↑(PS.n x) : Int)) default), p := Iv.pP (List.getD l (Int.toNat (↑(PS.n x) : Int)) default), w := a }] = ps ++ PS.ds x') ∧ List.length l - PS.n x' < List.length l - PS.n x) (inR IntKind.i64 ((↑(List.length l) : Int) - (1 : Int)) ∧ br ((↑(PS.n x) : Int) == (↑(List.length l) : Int) - (1 : Int)) ((List.length (ps ++ PS.ds x) + (1 : Nat)) * (24 : Nat) ≤ (140737488355328 : Nat) ∧ inR IntKind.i64 ((↑(PS.n x) : Int) + (1 : Int)) ∧ ∃ (x' : PS l a b), (a = a ∧ b = b ∧ (↑(List.length l) : Int) = (↑(List.length l) : Int) ∧ (↑(PS.n x) : Int) + (1 : Int) = (↑(PS.n x') : Int) ∧ l = l ∧ ps ++ PS.ds x ++ [{ r := Iv.pR (List.getD l (Int.toNat (↑(PS.n x) : Int)) default), p := Iv.pP (List.getD l (Int.toNat (↑(PS.n x) : Int)) default), w := b }] = ps ++ PS.ds x') ∧ List.length l - PS.n x' < List.length l - PS.n x) ((List.length (ps ++ PS.ds x) + (1 : Nat)) * (24 : Nat) ≤ (140737488355328 : Nat) ∧ inR IntKind.i64 ((↑(PS.n x) : Int) + (1 : Int)) ∧ ∃ (x' : PS l a b), (a = a ∧ b = b ∧ (↑(List.length l) : Int) = (↑(List.length l) : Int) ∧ (↑(PS.n x) : Int) + (1 : Int) = (↑(PS.n x') : Int) ∧ l = l ∧ ps ++ PS.ds x ++ [{ r := Iv.pR (List.getD l (Int.toNat (↑(PS.n x) : Int)) default), p := Iv.pP (List.getD l (Int.toNat (↑(PS.n x) : Int)) default), w := (0 : Int) }] = ps ++ PS.ds x') ∧ List.length l - PS.n x' < List.length l - PS.n x)))) (l = l ∧ ps ++ PS.ds x = ps ++ spotsN (List.length l) a b (0 : Nat) l)) := by kernel_rfl
set_option maxHeartbeats 4000000 in
theorem of_spots1 (h : ∀ (l : List Iv) (a b : Int) (ps : List Spot), (l.length ≤ 1000000000) → (ps.length ≤ 1000000000) → vcA [] [] misc Tryz.f113 (.loop 1 (PS l a b) (fun x => ⟨[(0, .one (.slc 0)), (1, .one (.int .i64 a)), (2, .one (.int .i64 b)), (3, .one (.ptr 1 0)), (11, .one (.slc 0)), (12, .one (.int .i64 l.length)), (13, .one (.int .i64 x.n))], [(0, some (.read (.ivs l))), (1, some (.cells 135 [.slc 17])), (17, some (.row 62 (.spots (ps ++ x.ds))))], 18⟩) (fun x => l.length - x.n) (fun _ => .nil) .nil) [.one (.slc 0), .one (.int .i64 a), .one (.int .i64 b), .one (.ptr 1 0)] [(0, some (.read (.ivs l))), (1, some (.cells 135 [.slc 2])), (2, some (.row 62 (.spots ps)))] (.tup []) [(0, some (.read (.ivs l))), (1, some (.cells 135 [.slc 16])), (16, some (.row 62 (.spots (ps ++ spotsN l.length a b 0 l))))]) : FnA 113 sp_spots1 := by
  refine fnA_ok (cs := []) (cas := []) (ms := misc) .nil .nil misc_ok 113 Tryz.f113 (by kernel_rfl) (by kernel_rfl) (by kernel_rfl) (fun | [.one (.slc 0), .one (.int .i64 a), .one (.int .i64 b), .one (.ptr 1 0)], [(0, some (.read (.ivs l))), (1, some (.cells 135 [.slc 2])), (2, some (.row 62 (.spots ps)))] => .loop 1 (PS l a b) (fun x => ⟨[(0, .one (.slc 0)), (1, .one (.int .i64 a)), (2, .one (.int .i64 b)), (3, .one (.ptr 1 0)), (11, .one (.slc 0)), (12, .one (.int .i64 l.length)), (13, .one (.int .i64 x.n))], [(0, some (.read (.ivs l))), (1, some (.cells 135 [.slc 17])), (17, some (.row 62 (.spots (ps ++ x.ds))))], 18⟩) (fun x => l.length - x.n) (fun _ => .nil) .nil | _, _ => .nil) ?_
  intro args mem p r post hs hp
  unfold sp_spots1 at hs
  simp only at hs
  split at hs
  · rename_i a b l ps
    cases hs
    refine h l a b ps ?_ ?_
    · exact hp.1
    · exact hp.2
  · cases hs
def spotW (N : Nat) (a b : Int) (n : Nat) : Int := if n = 0 then a else if n + 1 = N then b else 0
def PS.next {l : List Iv} {a b : Int} (x : PS l a b) (h : x.n < l.length) : PS l a b where
  n := x.n + 1
  ds := x.ds ++ if (l.getD x.n default).isP then [⟨(l.getD x.n default).pR, (l.getD x.n default).pP, spotW l.length a b x.n⟩] else []
  le := h
  few := by have := x.few; rw [List.length_append]; split <;> simp <;> omega
  fin := by
    have h1 := x.fin
    rw [drop_next l default h, spotsN] at h1
    rw [List.append_assoc]; exact h1
theorem spotsN_len (N : Nat) (a b : Int) : ∀ (l : List Iv) (n : Nat), (spotsN N a b n l).length ≤ l.length := by
  intro l
  induction l with
  | nil => intro n; exact Nat.le_refl _
  | cons y l ih =>
    intro n
    rw [spotsN, List.length_append]
    have := ih (n + 1)
    split <;> simp <;> omega
theorem ok_spots1 : FnA 113 sp_spots1 := of_spots1 (by
  intro l a b ps hl hps
  rw [vc_spots1]
  refine ⟨⟨⟨0, [], Nat.zero_le _, Nat.le_refl _, rfl⟩, rfl, rfl, rfl, rfl, rfl, (List.append_nil _).symm⟩, fun x => br_of (fun h => ?_) fun h => ?_⟩
  · have h : x.n < l.length := by simpa using h
    have hf := x.few
    have hcap : ((ps ++ x.ds).length + 1) * 24 ≤ 140737488355328 := by rw [List.length_append]; omega
    have hin : inR .i64 ((x.n : Int) + 1) := by simp only [inR]; omega
    have hμ : l.length - (x.next h).n < l.length - x.n := by show l.length - (x.n + 1) < _; omega
    rw [Int.toNat_natCast]
    have hgo : ∀ (w : Int), (l.getD x.n default).isP = true → spotW l.length a b x.n = w → ps ++ x.ds ++ [⟨(l.getD x.n default).pR, (l.getD x.n default).pP, w⟩] = ps ++ (x.next h).ds := by
      intro w hp hw
      show _ = ps ++ (x.ds ++ _)
      rw [if_pos hp, hw, List.append_assoc]
    refine ⟨⟨by omega, by omega⟩, h, br_of (fun h1 => ⟨hin, x.next h, ⟨rfl, rfl, rfl, rfl, rfl, ?_⟩, hμ⟩) fun h1 => ?_⟩
    · have h1 : (l.getD x.n default).isP = false := by simpa using h1
      show _ = ps ++ (x.ds ++ _)
      rw [if_neg (by rw [h1]; decide), List.append_nil]
    · have h1 : (l.getD x.n default).isP = true := by simpa using h1
      refine br_of (fun h2 => ?_) fun h2 => ⟨by simp only [inR]; omega, br_of (fun h3 => ?_) fun h3 => ?_⟩
      · have h2 : x.n = 0 := by have := eq_of_beq h2; omega
        exact ⟨hcap, hin, x.next h, ⟨rfl, rfl, rfl, rfl, rfl, hgo a h1 (by unfold spotW; rw [if_pos h2])⟩, hμ⟩
      · have h2 : ¬ x.n = 0 := by
          have : ¬ ((x.n : Int) = 0) := by simpa using h2
          omega
        have h3 : x.n + 1 = l.length := by have := eq_of_beq h3; omega
        exact ⟨hcap, hin, x.next h, ⟨rfl, rfl, rfl, rfl, rfl, hgo b h1 (by unfold spotW; rw [if_neg h2, if_pos h3])⟩, hμ⟩
      · have h2 : ¬ x.n = 0 := by
          have : ¬ ((x.n : Int) = 0) := by simpa using h2
          omega
        have h3 : ¬ x.n + 1 = l.length := by
          have : ¬ ((x.n : Int) = (l.length : Int) - 1) := by simpa using h3
          omega
        exact ⟨hcap, hin, x.next h, ⟨rfl, rfl, rfl, rfl, rfl, hgo 0 h1 (by unfold spotW; rw [if_neg h2, if_neg h3])⟩, hμ⟩
  · have h : ¬ x.n < l.length := by simpa using h
    have h1 := x.fin
    rw [List.drop_of_length_le (by omega)] at h1
    refine ⟨rfl, ?_⟩
    rw [← h1]
    show _ = ps ++ (x.ds ++ [])
    rw [List.append_nil])
def spotsT (p s : List Iv) : List Spot := spotsN p.length 1 2 0 p ++ spotsN s.length 3 4 0 s
def sp_spots : FSpec := ⟨[], fun | [.agg [.int .i64 b, .rd (.ivs p), .rd (.ivs s), .str t, .int .i64 a]] => some ([p.length ≤ 1000000000, s.length ≤ 1000000000], .one (.rd (.spots (spotsT p s)))) | _ => none⟩
theorem vc_spots (b : Int) (p s : List Iv) (t : List UInt8) (a : Int) : vcP [] [(113, sp_spots1)] misc Tryz.f89 (.nil) [.agg [.int .i64 b, .rd (.ivs p), .rd (.ivs s), .str t, .int .i64 a]] (.one (.rd (.spots (spotsT p s)))) = (List.length p ≤ (1000000000 : Nat) ∧ (0 : Nat) ≤ (1000000000 : Nat) ∧ List.length s ≤ (1000000000 : Nat) ∧ List.length ([] ++ spotsN (List.length p) (1 : Int) (2 : Int) (0 : Nat) p) ≤ (1000000000 : Nat) ∧ [] ++ spotsN (List.length p) (1 : Int) (2 : Int) (0 : Nat) p ++ spotsN (List.length s) (3 : Int) (4 : Int) (0 : Nat) s = spotsT p s) := by kernel_rfl
set_option maxHeartbeats 4000000 in
theorem of_spots (h : ∀ (b : Int) (p s : List Iv) (t : List UInt8) (a : Int), (p.length ≤ 1000000000) → (s.length ≤ 1000000000) → vcP [] [(113, sp_spots1)] misc Tryz.f89 (.nil) [.agg [.int .i64 b, .rd (.ivs p), .rd (.ivs s), .str t, .int .i64 a]] (.one (.rd (.spots (spotsT p s))))) : FnP 89 sp_spots := by
  refine fnP_ok (cs := []) (cas := [(113, sp_spots1)]) (ms := misc) .nil (.cons ok_spots1 .nil) misc_ok 89 Tryz.f89 (by kernel_rfl) (by kernel_rfl) (by kernel_rfl) (fun _ => .nil) ?_
  intro pvs p r hs hp
  unfold sp_spots at hs
  simp only at hs
  split at hs
  · rename_i b p s t a
    cases hs
    refine h b p s t a ?_ ?_
    · exact hp.1
    · exact hp.2
  · cases hs
theorem ok_spots : FnP 89 sp_spots := of_spots (by
  intro b p s t a hp hs
  rw [vc_spots]
  have := spotsN_len p.length 1 2 p 0
  exact ⟨hp, by decide, hs, by rw [List.nil_append]; omega, rfl⟩)
def paddedT (l : List Spot) (first : Bool) : Spot × Int × Int :=
  match l with
  | [] => (⟨0, 0, 0⟩, 0, 0)
  | x :: m => if x.w = 0 ∨ first = false then (⟨0, 0, 0⟩, 7, x.p) else match m with | [] => (x, 0, 0) | y :: _ => (⟨0, 0, 0⟩, 7, y.p)
/-- None was read, or one, and that was right. -/
def PX (l : List Spot) (first : Bool) : Type := {b : Bool // b = true → ∃ x m, l = x :: m ∧ x.w ≠ 0 ∧ first = true}
def pxN (b : Bool) : Nat := if b then 1 else 0
def pxS (l : List Spot) (b : Bool) : Spot := if b then l.getD 0 ⟨0, 0, 0⟩ else ⟨0, 0, 0⟩
def sp_padded : FSpec := ⟨[], fun | [.agg [.int .i64 b, .rd (.ivs p), .rd (.ivs s), .str t, .int .i64 a], .one (.bool first)] => some ([p.length ≤ 1000000000, s.length ≤ 1000000000], .tup [(true, [.int .i32 (paddedT (spotsT p s) first).1.r, .int .i64 (paddedT (spotsT p s) first).1.p, .int .i64 (paddedT (spotsT p s) first).1.w]), (true, [.int .i64 (paddedT (spotsT p s) first).2.1, .int .i64 (paddedT (spotsT p s) first).2.2])]) | _ => none⟩
theorem vc_padded (b : Int) (p s : List Iv) (t : List UInt8) (a : Int) (first : Bool) : vcP [(89, sp_spots)] [] misc Tryz.f64 (.loop 3 (PX (spotsT p s) first) (fun x => ⟨[(1, .one (.bool first)), (4, .one (.ptr 16 0)), (5, .one (.ptr 17 0)), (6, .one (.ptr 18 0)), (10, .one (.slc 19)), (11, .one (.int .i64 (spotsT p s).length)), (12, .one (.int .i64 (pxN x.1)))], [(16, some (.cells 62 [.int .i32 0, .int .i64 0, .int .i64 0])), (17, some (.cells 28 [.int .i64 0, .int .i64 0])), (18, some (.cells 62 [.int .i32 (pxS (spotsT p s) x.1).r, .int .i64 (pxS (spotsT p s) x.1).p, .int .i64 (pxS (spotsT p s) x.1).w])), (19, some (.read (.spots (spotsT p s))))], 20⟩) (fun x => 2 - pxN x.1) (fun _ => .nil) .nil) [.agg [.int .i64 b, .rd (.ivs p), .rd (.ivs s), .str t, .int .i64 a], .one (.bool first)] (.tup [(true, [.int .i32 (paddedT (spotsT p s) first).1.r, .int .i64 (paddedT (spotsT p s) first).1.p, .int .i64 (paddedT (spotsT p s) first).1.w]), (true, [.int .i64 (paddedT (spotsT p s) first).2.1, .int .i64 (paddedT (spotsT p s) first).2.2])]) = (letI v0 := (paddedT (spotsT p s) first); letI v1 := (↑(List.length (spotsT p s)) : Int); letI v2 := ((0 : Int) = Spot.r v0.1 ∧ (0 : Int) = Spot.p v0.1 ∧ (0 : Int) = Spot.w v0.1); (List.length p ≤ (1000000000 : Nat) ∧ List.length s ≤ (1000000000 : Nat) ∧ (∃ (x : PX (spotsT p s) first), first = first ∧ v1 = v1 ∧ (0 : Int) = (↑(pxN (Subtype.val x)) : Int) ∧ (0 : Int) = (0 : Int) ∧ (0 : Int) = (0 : Int) ∧ (0 : Int) = (0 : Int) ∧ (0 : Int) = (0 : Int) ∧ (0 : Int) = (0 : Int) ∧ (0 : Int) = Spot.r (pxS (spotsT p s) (Subtype.val x)) ∧ (0 : Int) = Spot.p (pxS (spotsT p s) (Subtype.val x)) ∧ (0 : Int) = Spot.w (pxS (spotsT p s) (Subtype.val x)) ∧ spotsT p s = spotsT p s) ∧ ∀ (x : PX (spotsT p s) first), br (decide ((↑(pxN (Subtype.val x)) : Int) < v1)) (((0 : Int) ≤ (↑(pxN (Subtype.val x)) : Int) ∧ (↑(pxN (Subtype.val x)) : Int) < v1) ∧ Int.toNat (↑(pxN (Subtype.val x)) : Int) < List.length (spotsT p s) ∧ br (Spot.w (List.getD (spotsT p s) (Int.toNat (↑(pxN (Subtype.val x)) : Int)) default) == (0 : Int)) (v2 ∧ (7 : Int) = v0.2.1 ∧ Spot.p (List.getD (spotsT p s) (Int.toNat (↑(pxN (Subtype.val x)) : Int)) default) = v0.2.2) (br (decide ((↑(pxN (Subtype.val x)) : Int) > (0 : Int))) (v2 ∧ (7 : Int) = v0.2.1 ∧ Spot.p (List.getD (spotsT p s) (Int.toNat (↑(pxN (Subtype.val x)) : Int)) default) = v0.2.2) (br (!first) (v2 ∧ (7 : Int) = v0.2.1 ∧ Spot.p (List.getD (spotsT p s) (Int.toNat (↑(pxN (Subtype.val x)) : Int)) default) = v0.2.2) (inR IntKind.i64 ((↑(pxN (Subtype.val x)) : Int) + (1 : Int)) ∧ ∃ (x' : PX (spotsT p s) first), (first = first ∧ v1 = v1 ∧ (↑(pxN (Subtype.val x)) : Int) + (1 : Int) = (↑(pxN (Subtype.val x')) : Int) ∧ (0 : Int) = (0 : Int) ∧ (0 : Int) = (0 : Int) ∧ (0 : Int) = (0 : Int) ∧ (0 : Int) = (0 : Int) ∧ (0 : Int) = (0 : Int) ∧ Spot.r (List.getD (spotsT p s) (Int.toNat (↑(pxN (Subtype.val x)) : Int)) default) = Spot.r (pxS (spotsT p s) (Subtype.val x')) ∧ Spot.p (List.getD (spotsT p s) (Int.toNat (↑(pxN (Subtype.val x)) : Int)) default) = Spot.p (pxS (spotsT p s) (Subtype.val x')) ∧ Spot.w (List.getD (spotsT p s) (Int.toNat (↑(pxN (Subtype.val x)) : Int)) default) = Spot.w (pxS (spotsT p s) (Subtype.val x')) ∧ spotsT p s = spotsT p s) ∧ (2 : Nat) - pxN (Subtype.val x') < (2 : Nat) - pxN (Subtype.val x))))) ((Spot.r (pxS (spotsT p s) (Subtype.val x)) = Spot.r v0.1 ∧ Spot.p (pxS (spotsT p s) (Subtype.val x)) = Spot.p v0.1 ∧ Spot.w (pxS (spotsT p s) (Subtype.val x)) = Spot.w v0.1) ∧ (0 : Int) = v0.2.1 ∧ (0 : Int) = v0.2.2))) := by kernel_rfl
set_option maxHeartbeats 4000000 in
theorem of_padded (h : ∀ (b : Int) (p s : List Iv) (t : List UInt8) (a : Int) (first : Bool), (p.length ≤ 1000000000) → (s.length ≤ 1000000000) → vcP [(89, sp_spots)] [] misc Tryz.f64 (.loop 3 (PX (spotsT p s) first) (fun x => ⟨[(1, .one (.bool first)), (4, .one (.ptr 16 0)), (5, .one (.ptr 17 0)), (6, .one (.ptr 18 0)), (10, .one (.slc 19)), (11, .one (.int .i64 (spotsT p s).length)), (12, .one (.int .i64 (pxN x.1)))], [(16, some (.cells 62 [.int .i32 0, .int .i64 0, .int .i64 0])), (17, some (.cells 28 [.int .i64 0, .int .i64 0])), (18, some (.cells 62 [.int .i32 (pxS (spotsT p s) x.1).r, .int .i64 (pxS (spotsT p s) x.1).p, .int .i64 (pxS (spotsT p s) x.1).w])), (19, some (.read (.spots (spotsT p s))))], 20⟩) (fun x => 2 - pxN x.1) (fun _ => .nil) .nil) [.agg [.int .i64 b, .rd (.ivs p), .rd (.ivs s), .str t, .int .i64 a], .one (.bool first)] (.tup [(true, [.int .i32 (paddedT (spotsT p s) first).1.r, .int .i64 (paddedT (spotsT p s) first).1.p, .int .i64 (paddedT (spotsT p s) first).1.w]), (true, [.int .i64 (paddedT (spotsT p s) first).2.1, .int .i64 (paddedT (spotsT p s) first).2.2])])) : FnP 64 sp_padded := by
  refine fnP_ok (cs := [(89, sp_spots)]) (cas := []) (ms := misc) (.cons ok_spots .nil) .nil misc_ok 64 Tryz.f64 (by kernel_rfl) (by kernel_rfl) (by kernel_rfl) (fun | [.agg [.int .i64 b, .rd (.ivs p), .rd (.ivs s), .str t, .int .i64 a], .one (.bool first)] => .loop 3 (PX (spotsT p s) first) (fun x => ⟨[(1, .one (.bool first)), (4, .one (.ptr 16 0)), (5, .one (.ptr 17 0)), (6, .one (.ptr 18 0)), (10, .one (.slc 19)), (11, .one (.int .i64 (spotsT p s).length)), (12, .one (.int .i64 (pxN x.1)))], [(16, some (.cells 62 [.int .i32 0, .int .i64 0, .int .i64 0])), (17, some (.cells 28 [.int .i64 0, .int .i64 0])), (18, some (.cells 62 [.int .i32 (pxS (spotsT p s) x.1).r, .int .i64 (pxS (spotsT p s) x.1).p, .int .i64 (pxS (spotsT p s) x.1).w])), (19, some (.read (.spots (spotsT p s))))], 20⟩) (fun x => 2 - pxN x.1) (fun _ => .nil) .nil | _ => .nil) ?_
  intro pvs p r hs hp
  unfold sp_padded at hs
  simp only at hs
  split at hs
  · rename_i b p s t a first
    cases hs
    refine h b p s t a first ?_ ?_
    · exact hp.1
    · exact hp.2
  · cases hs
theorem ok_padded : FnP 64 sp_padded := of_padded (by
  intro b p s t a first hp hs
  rw [vc_padded]
  generalize spotsT p s = l
  refine ⟨hp, hs, ⟨⟨false, fun h => by cases h⟩, rfl, rfl, rfl, rfl, rfl, rfl, rfl, rfl, rfl, rfl, rfl, rfl⟩, fun x => br_of (fun h => ?_) fun h => ?_⟩
  · have h : pxN x.1 < l.length := by simpa using h
    rw [Int.toNat_natCast]
    have h0 : pxN x.1 ≤ 1 := by unfold pxN; split <;> omega
    refine ⟨⟨by omega, by omega⟩, h, ?_⟩
    have hne : l ≠ [] := by rintro rfl; exact absurd h (by simp)
    obtain ⟨y, m, hl⟩ := List.exists_cons_of_ne_nil hne
    by_cases hb : x.1 = true
    · obtain ⟨y', m', e1, e2, e3⟩ := x.2 hb
      have hx1 : pxN x.1 = 1 := by unfold pxN; rw [if_pos hb]
      rw [hx1] at h ⊢
      subst e1
      obtain ⟨z, m2, hm⟩ : ∃ z m2, m' = z :: m2 := by
        cases m' with
        | nil => exact absurd h (by simp)
        | cons z m2 => exact ⟨z, m2, rfl⟩
      subst hm
      have hpT : paddedT (y' :: z :: m2) first = (⟨0, 0, 0⟩, 7, z.p) := by
        simp [paddedT, e2, e3]
      rw [hpT]
      refine br_of (fun _ => ⟨⟨rfl, rfl, rfl⟩, rfl, rfl⟩) fun _ => br_of (fun _ => ⟨⟨rfl, rfl, rfl⟩, rfl, rfl⟩) fun h2 => by simp at h2
    · have hx0 : pxN x.1 = 0 := by unfold pxN; rw [if_neg hb]
      rw [hx0] at h ⊢
      subst hl
      have bad : (y.w = 0 ∨ first = false) → (((0 : Int) = (paddedT (y :: m) first).1.r ∧ 0 = (paddedT (y :: m) first).1.p ∧ 0 = (paddedT (y :: m) first).1.w) ∧ 7 = (paddedT (y :: m) first).2.1 ∧ y.p = (paddedT (y :: m) first).2.2) := by
        intro hw
        have : paddedT (y :: m) first = (⟨0, 0, 0⟩, 7, y.p) := by unfold paddedT; simp only; rw [if_pos hw]
        rw [this]
        exact ⟨⟨rfl, rfl, rfl⟩, rfl, rfl⟩
      refine br_of (fun h1 => bad (.inl (eq_of_beq h1))) fun h1 => br_of (fun h2 => by simp at h2) fun _ => br_of (fun h2 => bad (.inr (by simpa using h2))) fun h2 => ?_
      have h1 : y.w ≠ 0 := by simpa using h1
      have h2 : first = true := by simpa using h2
      exact ⟨by simp only [inR]; omega, ⟨true, fun _ => ⟨y, m, rfl, h1, h2⟩⟩, ⟨rfl, rfl, rfl, rfl, rfl, rfl, rfl, rfl, rfl, rfl, rfl, rfl⟩, by show 2 - 1 < 2 - 0; decide⟩
  · have h : ¬ pxN x.1 < l.length := by simpa using h
    by_cases hb : x.1 = true
    · obtain ⟨y', m', e1, e2, e3⟩ := x.2 hb
      have hx1 : pxN x.1 = 1 := by unfold pxN; rw [if_pos hb]
      subst e1
      have : m' = [] := by
        rw [hx1] at h
        cases m' with
        | nil => rfl
        | cons z m2 => exact absurd h (by simp)
      subst this
      have hpT : paddedT [y'] first = (y', 0, 0) := by
        simp [paddedT, e2, e3]
      rw [hpT, hb]
      exact ⟨⟨rfl, rfl, rfl⟩, rfl, rfl⟩
    · have hx0 : pxN x.1 = 0 := by unfold pxN; rw [if_neg hb]
      have hb : x.1 = false := by simpa using hb
      have : l = [] := List.eq_nil_of_length_eq_zero (by omega)
      subst this
      rw [hb]
      exact ⟨⟨rfl, rfl, rfl⟩, rfl, rfl⟩)
/-! ### cut -/
def EOK (l : List Iv) : Prop := ∀ y ∈ l, y.isE = true ∧ (y.isS = true → scalar y.sR = true)
def cutN (l : List Iv) : Nat := l.findIdx (isIn bodyC)
def cutA (l : List Iv) (n : Nat) : Nat := n + runN (l.drop n) bodyC
def cutB (l : List Iv) (e : Nat) : Nat := e + 1 + min (runN (l.drop (e + 1)) [43]) 1
def cutE (l : List Iv) : Nat :=
  if 0 < runN (l.drop (cutA l (cutN l))) [69] then cutB l (cutA l (cutN l)) + runN (l.drop (cutB l (cutA l (cutN l)))) bodyC
  else cutA l (cutN l)
structure HalfT where
  b : Int
  p : List Iv
  s : List Iv
  t : List UInt8
  a : Int
def cutT (l : List Iv) (b : Int) : HalfT × Bool :=
  if cutN l < l.length then (⟨b, l.take (cutN l), l.drop (cutE l), encs (((l.take (cutE l)).drop (cutN l)).map Iv.sR), (l.getD (cutN l) default).at_⟩, true)
  else (⟨0, [], [], [], 0⟩, false)
def CN (l : List Iv) : Type := {n : Nat // n = cutN l ∧ n < l.length}
def CA (l : List Iv) : Type := {p : Nat × Nat // p.1 = cutN l ∧ p.1 < l.length ∧ p.2 = cutA l p.1}
def CM (l : List Iv) : Type := {p : Nat × Nat // p.1 = cutN l ∧ p.1 < l.length ∧ 0 < runN (l.drop (cutA l p.1)) [69] ∧ p.2 = cutA l p.1 + 1}
def CB (l : List Iv) : Type := {p : Nat × Nat // p.1 = cutN l ∧ p.1 < l.length ∧ 0 < runN (l.drop (cutA l p.1)) [69] ∧ p.2 = cutB l (cutA l p.1)}
def CE (l : List Iv) : Type := {p : Nat × Nat // p.1 = cutN l ∧ p.1 < l.length ∧ p.2 = cutE l}
def sp_pcut : FSpec := ⟨[], fun | [.one (.rd (.ivs l)), .one (.int .i64 b)] => some ([EOK l, l.length ≤ 1000000000], .tup [(true, [.int .i64 (cutT l b).1.b, .rd (.ivs (cutT l b).1.p), .rd (.ivs (cutT l b).1.s), .str (cutT l b).1.t, .int .i64 (cutT l b).1.a]), (false, [.bool (cutT l b).2])]) | _ => none⟩
theorem vc_pcut (l : List Iv) (b : Int) : vcP [(84, sp_idxC), (87, sp_run), (88, sp_text)] [] misc Tryz.f63 (.cut 4 (CN l) (fun x => ⟨[(0, .one (.slc 0)), (1, .one (.int .i64 b)), (4, .one (.ptr 16 0)), (6, .one (.int .i64 x.1))], [(0, some (.read (.ivs l))), (16, some (.cells 111 [.int .i64 0, .nils, .nils, .str [], .int .i64 0]))], 18⟩) (fun x => .cut 5 (CA l) (fun y => ⟨[(0, .one (.slc 0)), (1, .one (.int .i64 b)), (4, .one (.ptr 16 0)), (6, .one (.int .i64 y.1.1)), (7, .one (.int .i64 y.1.2))], [(0, some (.read (.ivs l))), (16, some (.cells 111 [.int .i64 0, .nils, .nils, .str [], .int .i64 0]))], 18⟩) (fun y => .cut 9 (CE l) (fun z => ⟨[(0, .one (.slc 0)), (1, .one (.int .i64 b)), (4, .one (.ptr 16 0)), (6, .one (.int .i64 z.1.1)), (7, .one (.int .i64 z.1.2))], [(0, some (.read (.ivs l))), (16, some (.cells 111 [.int .i64 0, .nils, .nils, .str [], .int .i64 0]))], 18⟩) (fun z => .nil) (.cut 7 (CM l) (fun z => ⟨[(0, .one (.slc 0)), (1, .one (.int .i64 b)), (4, .one (.ptr 16 0)), (6, .one (.int .i64 z.1.1)), (7, .one (.int .i64 z.1.2))], [(0, some (.read (.ivs l))), (16, some (.cells 111 [.int .i64 0, .nils, .nils, .str [], .int .i64 0]))], 18⟩) (fun z => .cut 8 (CB l) (fun z => ⟨[(0, .one (.slc 0)), (1, .one (.int .i64 b)), (4, .one (.ptr 16 0)), (6, .one (.int .i64 z.1.1)), (7, .one (.int .i64 z.1.2))], [(0, some (.read (.ivs l))), (16, some (.cells 111 [.int .i64 0, .nils, .nils, .str [], .int .i64 0]))], 18⟩) (fun z => .nil) .nil) .nil)) .nil) .nil) [.one (.rd (.ivs l)), .one (.int .i64 b)] (.tup [(true, [.int .i64 (cutT l b).1.b, .rd (.ivs (cutT l b).1.p), .rd (.ivs (cutT l b).1.s), .str (cutT l b).1.t, .int .i64 (cutT l b).1.a]), (false, [.bool (cutT l b).2])]) = (letI v0 := ([(35 : UInt8), (48 : UInt8), (49 : UInt8), (50 : UInt8), (51 : UInt8), (52 : UInt8), (53 : UInt8), (54 : UInt8), (55 : UInt8), (56 : UInt8), (57 : UInt8), (64 : UInt8), (44 : UInt8), (46 : UInt8)] : List UInt8); letI v1 := (List.take (List.length l) l); (List.length l ≤ (1000000000 : Nat) ∧ br (decide (idxZ (isIn bodyC) l < (0 : Int))) (((0 : Int) = HalfT.b (cutT l b).1 ∧ [] = HalfT.p (cutT l b).1 ∧ [] = HalfT.s (cutT l b).1 ∧ [] = HalfT.t (cutT l b).1 ∧ (0 : Int) = HalfT.a (cutT l b).1) ∧ false = (cutT l b).2) (∃ (j : CN l), b = b ∧ idxZ (isIn bodyC) l = (↑(Subtype.val j) : Int) ∧ l = l ∧ (0 : Int) = (0 : Int) ∧ ([] : List UInt8) = [] ∧ (0 : Int) = (0 : Int)) ∧ ∀ (j : CN l), (((0 : Int) ≤ (↑(Subtype.val j) : Int) ∧ (↑(Subtype.val j) : Int) ≤ (↑(List.length l) : Int)) ∧ (∀ (c : UInt8), c ∈ v0 → UInt8.toNat c < (128 : Nat)) ∧ List.length (List.drop (Int.toNat (↑(Subtype.val j) : Int)) v1) ≤ (1000000000 : Nat) ∧ inR IntKind.i64 ((↑(Subtype.val j) : Int) + (↑(runN (List.drop (Int.toNat (↑(Subtype.val j) : Int)) v1) (v0)) : Int)) ∧ ∃ (j_1 : CA l), b = b ∧ (↑(Subtype.val j) : Int) = (↑(Subtype.val j_1).1 : Int) ∧ (↑(Subtype.val j) : Int) + (↑(runN (List.drop (Int.toNat (↑(Subtype.val j) : Int)) v1) (v0)) : Int) = (↑(Subtype.val j_1).2 : Int) ∧ l = l ∧ (0 : Int) = (0 : Int) ∧ ([] : List UInt8) = [] ∧ (0 : Int) = (0 : Int)) ∧ ∀ (j : CA l), (((0 : Int) ≤ (↑(Subtype.val j).2 : Int) ∧ (↑(Subtype.val j).2 : Int) ≤ (↑(List.length l) : Int)) ∧ (∀ (c : UInt8), c ∈ ([(69 : UInt8)] : List UInt8) → UInt8.toNat c < (128 : Nat)) ∧ List.length (List.drop (Int.toNat (↑(Subtype.val j).2 : Int)) v1) ≤ (1000000000 : Nat) ∧ br (decide ((↑(runN (List.drop (Int.toNat (↑(Subtype.val j).2 : Int)) v1) (([(69 : UInt8)] : List UInt8))) : Int) > (0 : Int))) ((inR IntKind.i64 ((↑(Subtype.val j).2 : Int) + (1 : Int)) ∧ ∃ (j_1 : CM l), b = b ∧ (↑(Subtype.val j).1 : Int) = (↑(Subtype.val j_1).1 : Int) ∧ (↑(Subtype.val j).2 : Int) + (1 : Int) = (↑(Subtype.val j_1).2 : Int) ∧ l = l ∧ (0 : Int) = (0 : Int) ∧ ([] : List UInt8) = [] ∧ (0 : Int) = (0 : Int)) ∧ ∀ (j : CM l), (((0 : Int) ≤ (↑(Subtype.val j).2 : Int) ∧ (↑(Subtype.val j).2 : Int) ≤ (↑(List.length l) : Int)) ∧ (∀ (c : UInt8), c ∈ ([(43 : UInt8)] : List UInt8) → UInt8.toNat c < (128 : Nat)) ∧ List.length (List.drop (Int.toNat (↑(Subtype.val j).2 : Int)) v1) ≤ (1000000000 : Nat) ∧ inR IntKind.i64 ((↑(Subtype.val j).2 : Int) + List.foldl (mnx false) (↑(runN (List.drop (Int.toNat (↑(Subtype.val j).2 : Int)) v1) (([(43 : UInt8)] : List UInt8))) : Int) [(1 : Int)]) ∧ ∃ (j_1 : CB l), b = b ∧ (↑(Subtype.val j).1 : Int) = (↑(Subtype.val j_1).1 : Int) ∧ (↑(Subtype.val j).2 : Int) + List.foldl (mnx false) (↑(runN (List.drop (Int.toNat (↑(Subtype.val j).2 : Int)) v1) (([(43 : UInt8)] : List UInt8))) : Int) [(1 : Int)] = (↑(Subtype.val j_1).2 : Int) ∧ l = l ∧ (0 : Int) = (0 : Int) ∧ ([] : List UInt8) = [] ∧ (0 : Int) = (0 : Int)) ∧ ∀ (j : CB l), ((0 : Int) ≤ (↑(Subtype.val j).2 : Int) ∧ (↑(Subtype.val j).2 : Int) ≤ (↑(List.length l) : Int)) ∧ (∀ (c : UInt8), c ∈ v0 → UInt8.toNat c < (128 : Nat)) ∧ List.length (List.drop (Int.toNat (↑(Subtype.val j).2 : Int)) v1) ≤ (1000000000 : Nat) ∧ inR IntKind.i64 ((↑(Subtype.val j).2 : Int) + (↑(runN (List.drop (Int.toNat (↑(Subtype.val j).2 : Int)) v1) (v0)) : Int)) ∧ ∃ (j_1 : CE l), b = b ∧ (↑(Subtype.val j).1 : Int) = (↑(Subtype.val j_1).1 : Int) ∧ (↑(Subtype.val j).2 : Int) + (↑(runN (List.drop (Int.toNat (↑(Subtype.val j).2 : Int)) v1) (v0)) : Int) = (↑(Subtype.val j_1).2 : Int) ∧ l = l ∧ (0 : Int) = (0 : Int) ∧ ([] : List UInt8) = [] ∧ (0 : Int) = (0 : Int)) (∃ (j_1 : CE l), b = b ∧ (↑(Subtype.val j).1 : Int) = (↑(Subtype.val j_1).1 : Int) ∧ (↑(Subtype.val j).2 : Int) = (↑(Subtype.val j_1).2 : Int) ∧ l = l ∧ (0 : Int) = (0 : Int) ∧ ([] : List UInt8) = [] ∧ (0 : Int) = (0 : Int))) ∧ ∀ (j : CE l), ((0 : Int) ≤ (↑(Subtype.val j).1 : Int) ∧ (↑(Subtype.val j).1 : Int) ≤ (↑(List.length l) : Int)) ∧ ((0 : Int) ≤ (↑(Subtype.val j).2 : Int) ∧ (↑(Subtype.val j).2 : Int) ≤ (↑(List.length l) : Int)) ∧ ((0 : Int) ≤ (↑(Subtype.val j).1 : Int) ∧ (↑(Subtype.val j).1 : Int) ≤ (↑(Subtype.val j).2 : Int) ∧ (↑(Subtype.val j).2 : Int) ≤ (↑(List.length l) : Int)) ∧ (∀ (y : Iv), y ∈ List.drop (Int.toNat (↑(Subtype.val j).1 : Int)) (List.take (Int.toNat (↑(Subtype.val j).2 : Int)) l) → Iv.isS y = true ∧ scalar (Iv.sR y) = true) ∧ List.length (List.drop (Int.toNat (↑(Subtype.val j).1 : Int)) (List.take (Int.toNat (↑(Subtype.val j).2 : Int)) l)) ≤ (1000000000 : Nat) ∧ ((0 : Int) ≤ (↑(Subtype.val j).1 : Int) ∧ (↑(Subtype.val j).1 : Int) < (↑(List.length l) : Int)) ∧ Int.toNat (↑(Subtype.val j).1 : Int) < List.length l ∧ Iv.isE (List.getD l (Int.toNat (↑(Subtype.val j).1 : Int)) default) = true ∧ (b = HalfT.b (cutT l b).1 ∧ List.drop (0 : Nat) (List.take (Int.toNat (↑(Subtype.val j).1 : Int)) l) = HalfT.p (cutT l b).1 ∧ List.drop (Int.toNat (↑(Subtype.val j).2 : Int)) v1 = HalfT.s (cutT l b).1 ∧ encs (List.map Iv.sR (List.drop (Int.toNat (↑(Subtype.val j).1 : Int)) (List.take (Int.toNat (↑(Subtype.val j).2 : Int)) l))) = HalfT.t (cutT l b).1 ∧ Iv.at_ (List.getD l (Int.toNat (↑(Subtype.val j).1 : Int)) default) = HalfT.a (cutT l b).1) ∧ true = (cutT l b).2)) := by kernel_rfl
set_option maxHeartbeats 4000000 in
theorem of_pcut (h : ∀ (l : List Iv) (b : Int), (EOK l) → (l.length ≤ 1000000000) → vcP [(84, sp_idxC), (87, sp_run), (88, sp_text)] [] misc Tryz.f63 (.cut 4 (CN l) (fun x => ⟨[(0, .one (.slc 0)), (1, .one (.int .i64 b)), (4, .one (.ptr 16 0)), (6, .one (.int .i64 x.1))], [(0, some (.read (.ivs l))), (16, some (.cells 111 [.int .i64 0, .nils, .nils, .str [], .int .i64 0]))], 18⟩) (fun x => .cut 5 (CA l) (fun y => ⟨[(0, .one (.slc 0)), (1, .one (.int .i64 b)), (4, .one (.ptr 16 0)), (6, .one (.int .i64 y.1.1)), (7, .one (.int .i64 y.1.2))], [(0, some (.read (.ivs l))), (16, some (.cells 111 [.int .i64 0, .nils, .nils, .str [], .int .i64 0]))], 18⟩) (fun y => .cut 9 (CE l) (fun z => ⟨[(0, .one (.slc 0)), (1, .one (.int .i64 b)), (4, .one (.ptr 16 0)), (6, .one (.int .i64 z.1.1)), (7, .one (.int .i64 z.1.2))], [(0, some (.read (.ivs l))), (16, some (.cells 111 [.int .i64 0, .nils, .nils, .str [], .int .i64 0]))], 18⟩) (fun z => .nil) (.cut 7 (CM l) (fun z => ⟨[(0, .one (.slc 0)), (1, .one (.int .i64 b)), (4, .one (.ptr 16 0)), (6, .one (.int .i64 z.1.1)), (7, .one (.int .i64 z.1.2))], [(0, some (.read (.ivs l))), (16, some (.cells 111 [.int .i64 0, .nils, .nils, .str [], .int .i64 0]))], 18⟩) (fun z => .cut 8 (CB l) (fun z => ⟨[(0, .one (.slc 0)), (1, .one (.int .i64 b)), (4, .one (.ptr 16 0)), (6, .one (.int .i64 z.1.1)), (7, .one (.int .i64 z.1.2))], [(0, some (.read (.ivs l))), (16, some (.cells 111 [.int .i64 0, .nils, .nils, .str [], .int .i64 0]))], 18⟩) (fun z => .nil) .nil) .nil)) .nil) .nil) [.one (.rd (.ivs l)), .one (.int .i64 b)] (.tup [(true, [.int .i64 (cutT l b).1.b, .rd (.ivs (cutT l b).1.p), .rd (.ivs (cutT l b).1.s), .str (cutT l b).1.t, .int .i64 (cutT l b).1.a]), (false, [.bool (cutT l b).2])])) : FnP 63 sp_pcut := by
  refine fnP_ok (cs := [(84, sp_idxC), (87, sp_run), (88, sp_text)]) (cas := []) (ms := misc) (.cons ok_idxC (.cons ok_run (.cons ok_text .nil))) .nil misc_ok 63 Tryz.f63 (by kernel_rfl) (by kernel_rfl) (by kernel_rfl) (fun | [.one (.rd (.ivs l)), .one (.int .i64 b)] => .cut 4 (CN l) (fun x => ⟨[(0, .one (.slc 0)), (1, .one (.int .i64 b)), (4, .one (.ptr 16 0)), (6, .one (.int .i64 x.1))], [(0, some (.read (.ivs l))), (16, some (.cells 111 [.int .i64 0, .nils, .nils, .str [], .int .i64 0]))], 18⟩) (fun x => .cut 5 (CA l) (fun y => ⟨[(0, .one (.slc 0)), (1, .one (.int .i64 b)), (4, .one (.ptr 16 0)), (6, .one (.int .i64 y.1.1)), (7, .one (.int .i64 y.1.2))], [(0, some (.read (.ivs l))), (16, some (.cells 111 [.int .i64 0, .nils, .nils, .str [], .int .i64 0]))], 18⟩) (fun y => .cut 9 (CE l) (fun z => ⟨[(0, .one (.slc 0)), (1, .one (.int .i64 b)), (4, .one (.ptr 16 0)), (6, .one (.int .i64 z.1.1)), (7, .one (.int .i64 z.1.2))], [(0, some (.read (.ivs l))), (16, some (.cells 111 [.int .i64 0, .nils, .nils, .str [], .int .i64 0]))], 18⟩) (fun z => .nil) (.cut 7 (CM l) (fun z => ⟨[(0, .one (.slc 0)), (1, .one (.int .i64 b)), (4, .one (.ptr 16 0)), (6, .one (.int .i64 z.1.1)), (7, .one (.int .i64 z.1.2))], [(0, some (.read (.ivs l))), (16, some (.cells 111 [.int .i64 0, .nils, .nils, .str [], .int .i64 0]))], 18⟩) (fun z => .cut 8 (CB l) (fun z => ⟨[(0, .one (.slc 0)), (1, .one (.int .i64 b)), (4, .one (.ptr 16 0)), (6, .one (.int .i64 z.1.1)), (7, .one (.int .i64 z.1.2))], [(0, some (.read (.ivs l))), (16, some (.cells 111 [.int .i64 0, .nils, .nils, .str [], .int .i64 0]))], 18⟩) (fun z => .nil) .nil) .nil)) .nil) .nil | _ => .nil) ?_
  intro pvs p r hs hp
  unfold sp_pcut at hs
  simp only at hs
  split at hs
  · rename_i l b
    cases hs
    refine h l b ?_ ?_
    · exact hp.1
    · exact hp.2
  · cases hs
theorem runN_le (l : List Iv) (c : List UInt8) : runN l c ≤ l.length := List.findIdx_le_length
theorem runN_all {l : List Iv} {c : List UInt8} {i : Nat} (h : i < runN l c) : isIn c (l.getD i default) = true := by
  have h1 := runN_le l c
  have h2 := List.not_of_lt_findIdx (p := fun y => !isIn c y) h
  rw [List.getD_eq_getElem?_getD, List.getElem?_eq_getElem (by omega)]
  simpa using h2
theorem isIn_S {c : List UInt8} {y : Iv} (h : isIn c y = true) : y.isS = true := by
  unfold isIn at h
  rw [Bool.and_eq_true] at h
  exact h.1
theorem getD_dropA {α : Type} (l : List α) (p i : Nat) (d : α) : (l.drop p).getD i d = l.getD (p + i) d := by
  simp [List.getD_eq_getElem?_getD, List.getElem?_drop]
theorem run_drop {l : List Iv} {c : List UInt8} {p i : Nat} (h1 : p ≤ i) (h2 : i < p + runN (l.drop p) c) : isIn c (l.getD i default) = true := by
  have h3 := runN_all (l := l.drop p) (c := c) (i := i - p) (by omega)
  rw [getD_dropA, show p + (i - p) = i by omega] at h3
  exact h3
theorem run_drop_le {l : List Iv} {c : List UInt8} {p : Nat} (h : p ≤ l.length) : p + runN (l.drop p) c ≤ l.length := by
  have := runN_le (l.drop p) c
  rw [List.length_drop] at this
  omega
theorem cutA_le {l : List Iv} {n : Nat} (h : n < l.length) : n ≤ cutA l n ∧ cutA l n ≤ l.length := by
  unfold cutA
  exact ⟨by omega, run_drop_le (by omega)⟩
theorem run_pos {l : List Iv} {c : List UInt8} {p : Nat} (h : 0 < runN (l.drop p) c) : p < l.length := by
  have := runN_le (l.drop p) c
  rw [List.length_drop] at this
  omega
theorem cutB_le {l : List Iv} {e : Nat} (h : 0 < runN (l.drop e) [69]) : e < cutB l e ∧ cutB l e ≤ l.length := by
  have h1 := run_pos h
  have h2 := run_drop_le (l := l) (c := [43]) (p := e + 1) (by omega)
  unfold cutB
  omega
theorem cutE_le {l : List Iv} (h : cutN l < l.length) : cutN l ≤ cutE l ∧ cutE l ≤ l.length := by
  have h1 := cutA_le h
  unfold cutE
  split
  · rename_i h2
    have h3 := cutB_le h2
    have h4 := run_drop_le (l := l) (c := bodyC) (p := cutB l (cutA l (cutN l))) h3.2
    omega
  · exact h1
theorem cut_all {l : List Iv} (h : cutN l < l.length) {i : Nat} (h1 : cutN l ≤ i) (h2 : i < cutE l) : (l.getD i default).isS = true := by
  by_cases ha : i < cutA l (cutN l)
  · exact isIn_S (run_drop h1 ha)
  · unfold cutE at h2
    split at h2
    · rename_i h3
      by_cases hb : i < cutB l (cutA l (cutN l))
      · by_cases hc : i = cutA l (cutN l)
        · subst hc
          exact isIn_S (run_drop (c := [69]) (Nat.le_refl _) (by omega))
        · refine isIn_S (run_drop (c := [43]) (p := cutA l (cutN l) + 1) (by omega) ?_)
          unfold cutB at hb
          omega
      · exact isIn_S (run_drop (by omega) h2)
    · exact absurd h2 ha
theorem mem_mid {α : Type} {l : List α} {a b : Nat} {y : α} (d : α) (h : y ∈ (l.take b).drop a) : ∃ i, a ≤ i ∧ i < b ∧ i < l.length ∧ l.getD i d = y := by
  obtain ⟨j, hj, rfl⟩ := List.mem_iff_getElem.1 h
  rw [List.length_drop, List.length_take] at hj
  refine ⟨a + j, by omega, by omega, by omega, ?_⟩
  rw [List.getElem_drop, List.getElem_take, List.getD_eq_getElem?_getD, List.getElem?_eq_getElem (by omega)]
  rfl
theorem mnx_min (n : Nat) : List.foldl (mnx false) (n : Int) [1] = ((min n 1 : Nat) : Int) := by
  simp only [List.foldl]
  unfold mnx
  simp
  split <;> omega
theorem cut_idx (l : List Iv) : idxZ (isIn bodyC) l = if cutN l < l.length then (cutN l : Int) else -1 := rfl
set_option maxHeartbeats 1000000 in
theorem ok_pcut : FnP 63 sp_pcut := of_pcut (by
  intro l b hl hn
  rw [vc_pcut]
  have htl : l.take l.length = l := List.take_length
  rw [htl]
  have hd : ∀ n, (l.drop n).length ≤ 1000000000 := fun n => by rw [List.length_drop]; omega
  have hb : Asc [35, 48, 49, 50, 51, 52, 53, 54, 55, 56, 57, 64, 44, 46] := bodyC_asc
  have h69 : Asc [69] := asc_iff.2 rfl
  have h43 : Asc [43] := asc_iff.2 rfl
  refine ⟨hn, br_of (fun h => ?_) fun h => ?_, fun x => ⟨⟨?_, hb, hd _, ?_, ?_⟩, fun y => ⟨⟨?_, h69, hd _, br_of (fun h => ⟨?_, fun z => ⟨⟨?_, h43, hd _, ?_, ?_⟩, fun z => ⟨?_, hb, hd _, ?_, ?_⟩⟩⟩) fun h => ?_⟩, fun z => ?_⟩⟩⟩
  · have h1 : ¬ cutN l < l.length := by
      intro h1
      have h := of_decide_eq_true h
      rw [cut_idx, if_pos h1] at h
      omega
    unfold cutT
    rw [if_neg h1]
    exact ⟨⟨rfl, rfl, rfl, rfl, rfl⟩, rfl⟩
  · have h1 : cutN l < l.length := by
      by_cases h1 : cutN l < l.length
      · exact h1
      · exfalso
        have h := of_decide_eq_false h
        rw [cut_idx, if_neg h1] at h
        omega
    exact ⟨⟨cutN l, rfl, h1⟩, rfl, by rw [cut_idx, if_pos h1], rfl, rfl, rfl, rfl⟩
  · have := x.2.2; exact ⟨by omega, by omega⟩
  · have h1 := cutA_le x.2.2
    unfold cutA at h1
    rw [Int.toNat_natCast]
    have h1 : x.1 + runN (l.drop x.1) [35, 48, 49, 50, 51, 52, 53, 54, 55, 56, 57, 64, 44, 46] ≤ l.length := h1.2
    simp only [inR]; omega
  · rw [Int.toNat_natCast]
    exact ⟨⟨(x.1, cutA l x.1), x.2.1, x.2.2, rfl⟩, rfl, rfl, rfl, rfl, rfl, rfl, rfl⟩
  · have h1 := cutA_le y.2.2.1
    rw [y.2.2.2]; omega
  · have h1 := cutA_le y.2.2.1
    have h2 := y.2.2.2
    refine ⟨by simp only [inR]; omega, ⟨(y.1.1, y.1.2 + 1), y.2.1, y.2.2.1, ?_, by show y.1.2 + 1 = _; rw [h2]⟩, rfl, rfl, rfl, rfl, rfl, rfl, rfl⟩
    rw [Int.toNat_natCast, h2] at h
    have h := of_decide_eq_true h
    show 0 < runN (l.drop (cutA l y.1.1)) [69]
    omega
  · have h1 := run_pos z.2.2.2.1
    have h2 := z.2.2.2.2
    omega
  · have h1 := run_pos z.2.2.2.1
    have h2 := z.2.2.2.2
    rw [mnx_min]
    simp only [inR]; omega
  · rw [mnx_min, Int.toNat_natCast]
    refine ⟨⟨(z.1.1, cutB l (cutA l z.1.1)), z.2.1, z.2.2.1, z.2.2.2.1, rfl⟩, rfl, rfl, ?_, rfl, rfl, rfl, rfl⟩
    show _ = ((cutB l (cutA l z.1.1) : Nat) : Int)
    unfold cutB
    rw [z.2.2.2.2]
    omega
  · have h1 := cutB_le z.2.2.2.1
    have h2 := z.2.2.2.2
    omega
  · have h1 := cutB_le z.2.2.2.1
    have h2 := z.2.2.2.2
    rw [Int.toNat_natCast]
    have h3 := run_drop_le (l := l) (c := [35, 48, 49, 50, 51, 52, 53, 54, 55, 56, 57, 64, 44, 46]) (p := z.1.2) (by omega)
    simp only [inR]; omega
  · rw [Int.toNat_natCast]
    refine ⟨⟨(z.1.1, cutE l), z.2.1, z.2.2.1, rfl⟩, rfl, rfl, ?_, rfl, rfl, rfl, rfl⟩
    have h1 := z.2.2.2.1
    have h2 := z.2.2.2.2
    rw [z.2.1] at h1 h2
    show _ = ((cutE l : Nat) : Int)
    unfold cutE
    rw [if_pos h1, h2]
    rfl
  · refine ⟨⟨(y.1.1, cutE l), y.2.1, y.2.2.1, rfl⟩, rfl, rfl, ?_, rfl, rfl, rfl, rfl⟩
    have h2 := y.2.2.2
    rw [y.2.1] at h2
    rw [Int.toNat_natCast, h2] at h
    have h := of_decide_eq_false h
    show _ = ((cutE l : Nat) : Int)
    unfold cutE
    rw [if_neg (by intro h0; apply h; show ((runN (l.drop (cutA l (cutN l))) [69] : Nat) : Int) > 0; omega), h2]
  · have z1 := z.2.1
    have z2 := z.2.2.1
    have z3 := z.2.2.2
    rw [z1] at z2
    rw [z1, z3]
    have hle := cutE_le z2
    simp only [Int.toNat_natCast]
    have hT : cutT l b = (⟨b, l.take (cutN l), l.drop (cutE l), encs (((l.take (cutE l)).drop (cutN l)).map Iv.sR), (l.getD (cutN l) default).at_⟩, true) := by
      unfold cutT; rw [if_pos z2]
    rw [hT]
    refine ⟨⟨by omega, by omega⟩, ⟨by omega, by omega⟩, ⟨by omega, by omega, by omega⟩, ?_, ?_, ⟨by omega, by omega⟩, z2, (hl _ (getD_mem' z2)).1, ⟨rfl, rfl, rfl, rfl, rfl⟩, rfl⟩
    · intro y hy
      obtain ⟨i, i1, i2, i3, rfl⟩ := mem_mid default hy
      have h1 := cut_all z2 i1 i2
      exact ⟨h1, (hl _ (getD_mem' i3)).2 h1⟩
    · rw [List.length_drop, List.length_take]; omega)
end Go.Proofs.YtglfkihckkjniaaGreatDoor.Vx
