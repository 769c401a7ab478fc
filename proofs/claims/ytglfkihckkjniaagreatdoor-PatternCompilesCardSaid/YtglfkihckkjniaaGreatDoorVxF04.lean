/-
VX, functions 4: tokens. No statement of the seat is proved here.
-/
import Derived.Test.YtglfkihckkjniaaGreatDoorVxF03
set_option maxRecDepth 100000
set_option linter.unusedVariables false
set_option linter.unusedSimpArgs false
namespace Go.Proofs.YtglfkihckkjniaaGreatDoor.Vx
open Go Go.RowKit

/-! ### what is scanned -/
/-- A token more: what is left, where that stands, where quotes were opened, the token. -/
def scanStep : List Int → Int → Int → List Int × Int × Int × List Iv
  | [], a, o => ([], a, o, [])
  | r :: l, a, o =>
    if r = 39 then
      match l with
      | x :: m => if x = 39 then (m, a + 1 + 1, o, [.quoted 39 a]) else if o < 0 then (l, a + 1, a, []) else (l, a + 1, -1, [])
      | [] => if o < 0 then (l, a + 1, a, []) else (l, a + 1, -1, [])
    else if o < 0 then (l, a + (enc r).length, o, [.plain r a]) else (l, a + (enc r).length, o, [.quoted r a])
/-! ### figurehead/utf.Text -/
/-- How far a list is read. -/
def Upto {α : Type} (l : List α) : Type := {i : Nat // i ≤ l.length}
def bys (l : List Int) : List Int := l.flatMap Lib.encodeRuneZ
def sp_utext : FSpec := ⟨[.one (.rd (.ints .i32 []))], fun | [.one (.rd (.ints .i32 l))] => some ([Scalars l, l.length ≤ 1000000000], .tup [(false, [.str (encs l)]), (false, [.bool true])]) | _ => none⟩
theorem vc_utext (l : List Int) : vcP [(102, sp_uscalar)] [(104, sp_writeRune), (107, sp_bstr)] misc Tryz.f111 (.loop 3 (Upto l) (fun i => ⟨[(4, .one (.ptr 17 0)), (7, .one (.slc 0)), (8, .one (.int .i64 l.length)), (9, .one (.int .i64 i.1))], [(0, some (.read (.ints .i32 l))), (17, some (.cells 149 [.mp 17 (decide (0 < i.1)), .slc 18])), (18, some (.row 5 (.ints .u8 (bys (l.take i.1)))))], 19⟩) (fun i => l.length - i.1) (fun _ => .nil) .nil) [.one (.rd (.ints .i32 l))] (.tup [(false, [.str (encs l)]), (false, [.bool true])]) = ((∃ (x : Upto l), (↑(List.length l) : Int) = (↑(List.length l) : Int) ∧ (0 : Int) = (↑(Subtype.val x) : Int) ∧ l = l ∧ false = decide ((0 : Nat) < Subtype.val x) ∧ [] = bys (List.take (Subtype.val x) l)) ∧ ∀ (x : Upto l), br (decide ((↑(Subtype.val x) : Int) < (↑(List.length l) : Int))) (((0 : Int) ≤ (↑(Subtype.val x) : Int) ∧ (↑(Subtype.val x) : Int) < (↑(List.length l) : Int)) ∧ Int.toNat (↑(Subtype.val x) : Int) < List.length l ∧ br (!scalar (List.getD l (Int.toNat (↑(Subtype.val x) : Int)) (0 : Int))) (([] : List UInt8) = encs l ∧ false = true) (scalar (List.getD l (Int.toNat (↑(Subtype.val x) : Int)) (0 : Int)) = true ∧ List.length (bys (List.take (Subtype.val x) l)) ≤ (1000000000000 : Nat) ∧ inR IntKind.i64 ((↑(Subtype.val x) : Int) + (1 : Int)) ∧ ∃ (x' : Upto l), ((↑(List.length l) : Int) = (↑(List.length l) : Int) ∧ (↑(Subtype.val x) : Int) + (1 : Int) = (↑(Subtype.val x') : Int) ∧ l = l ∧ true = decide ((0 : Nat) < Subtype.val x') ∧ bys (List.take (Subtype.val x) l) ++ Lib.encodeRuneZ (List.getD l (Int.toNat (↑(Subtype.val x) : Int)) (0 : Int)) = bys (List.take (Subtype.val x') l)) ∧ List.length l - Subtype.val x' < List.length l - Subtype.val x)) ((∀ (n : Int), n ∈ bys (List.take (Subtype.val x) l) → (0 : Int) ≤ n ∧ n < (256 : Int)) ∧ u8s (bys (List.take (Subtype.val x) l)) = encs l ∧ true = true)) := by kernel_rfl
set_option maxHeartbeats 4000000 in
theorem of_utext (h : ∀ (l : List Int), (Scalars l) → (l.length ≤ 1000000000) → vcP [(102, sp_uscalar)] [(104, sp_writeRune), (107, sp_bstr)] misc Tryz.f111 (.loop 3 (Upto l) (fun i => ⟨[(4, .one (.ptr 17 0)), (7, .one (.slc 0)), (8, .one (.int .i64 l.length)), (9, .one (.int .i64 i.1))], [(0, some (.read (.ints .i32 l))), (17, some (.cells 149 [.mp 17 (decide (0 < i.1)), .slc 18])), (18, some (.row 5 (.ints .u8 (bys (l.take i.1)))))], 19⟩) (fun i => l.length - i.1) (fun _ => .nil) .nil) [.one (.rd (.ints .i32 l))] (.tup [(false, [.str (encs l)]), (false, [.bool true])])) : FnP 111 sp_utext := by
  refine fnP_ok (cs := [(102, sp_uscalar)]) (cas := [(104, sp_writeRune), (107, sp_bstr)]) (ms := misc) (.cons ok_uscalar .nil) (.cons ok_writeRune (.cons ok_bstr .nil)) misc_ok 111 Tryz.f111 (by kernel_rfl) (by kernel_rfl) (by kernel_rfl) (fun | [.one (.rd (.ints .i32 l))] => .loop 3 (Upto l) (fun i => ⟨[(4, .one (.ptr 17 0)), (7, .one (.slc 0)), (8, .one (.int .i64 l.length)), (9, .one (.int .i64 i.1))], [(0, some (.read (.ints .i32 l))), (17, some (.cells 149 [.mp 17 (decide (0 < i.1)), .slc 18])), (18, some (.row 5 (.ints .u8 (bys (l.take i.1)))))], 19⟩) (fun i => l.length - i.1) (fun _ => .nil) .nil | _ => .nil) ?_
  intro pvs p r hs hp
  unfold sp_utext at hs
  simp only at hs
  split at hs
  · rename_i l
    cases hs
    refine h l ?_ ?_
    · exact hp.1
    · exact hp.2
  · cases hs
theorem take_next {α : Type} (l : List α) (d : α) {i : Nat} (h : i < l.length) : l.take (i + 1) = l.take i ++ [l.getD i d] := by
  rw [List.take_add_one, List.getElem?_eq_getElem h, List.getD_eq_getElem?_getD, List.getElem?_eq_getElem h]
  rfl
theorem getD_mem' {α : Type} {l : List α} {d : α} {i : Nat} (h : i < l.length) : l.getD i d ∈ l := by
  rw [List.getD_eq_getElem?_getD, List.getElem?_eq_getElem h]
  exact List.getElem_mem h
theorem bys_append (l m : List Int) : bys (l ++ m) = bys l ++ bys m := by simp [bys]
theorem bys_one (r : Int) : bys [r] = Lib.encodeRuneZ r := by simp [bys]
theorem bys_bytes (l : List Int) : Bytes (bys l) := by
  intro n hn
  obtain ⟨r, _, h⟩ := List.mem_flatMap.1 hn
  exact Lib.encodeRuneZ_byte r n h
theorem u8s_bys (l : List Int) : u8s (bys l) = encs l := by
  unfold u8s bys encs
  rw [List.map_flatMap]
  rfl
theorem bys_len (l : List Int) : (bys l).length ≤ 4 * l.length := by
  have h := (encs_len l).2
  rw [← u8s_bys] at h
  simpa [u8s] using h
theorem ok_utext : FnP 111 sp_utext := of_utext (by
  intro l hl hn
  rw [vc_utext]
  refine ⟨⟨⟨0, Nat.zero_le _⟩, rfl, rfl, rfl, rfl, rfl⟩, fun i => br_of (fun h => ?_) fun h => ?_⟩
  · have h : i.1 < l.length := by simpa using h
    have hs : scalar (l.getD i.1 0) = true := hl _ (getD_mem' h)
    have := bys_len (l.take i.1)
    have h2 : (l.take i.1).length ≤ l.length := by simp; omega
    rw [Int.toNat_natCast]
    refine ⟨⟨by omega, by omega⟩, h, br_of (fun h1 => ?_) fun h1 => ⟨hs, by omega, by simp only [inR]; omega, ⟨i.1 + 1, by omega⟩, ⟨rfl, rfl, rfl, by simp, ?_⟩, by show l.length - (i.1 + 1) < l.length - i.1; omega⟩⟩
    · rw [hs] at h1; cases h1
    · show _ = bys (l.take (i.1 + 1))
      rw [take_next l 0 h, bys_append, bys_one]
  · have h : ¬ i.1 < l.length := by simpa using h
    rw [List.take_of_length_le (by omega)]
    exact ⟨bys_bytes l, u8s_bys l, rfl⟩)
/-! ### figurehead/token.size -/
def sp_tsize : FSpec := ⟨[], fun | [.one (.int .i32 r)] => some ([scalar r = true], .one (.int .i64 (enc r).length)) | _ => none⟩
theorem vc_tsize (r : Int) : vcP [(111, sp_utext)] [] misc Tryz.f83 (.nil) [.one (.int .i32 r)] (.one (.int .i64 (enc r).length)) = ((∀ (r_1 : Int), r_1 ∈ [] ++ [r] → scalar r_1 = true) ∧ List.length ([] ++ [r]) ≤ (1000000000 : Nat) ∧ (↑(List.length (encs ([] ++ [r]))) : Int) = (↑(List.length (enc r)) : Int)) := by kernel_rfl
set_option maxHeartbeats 4000000 in
theorem of_tsize (h : ∀ (r : Int), (scalar r = true) → vcP [(111, sp_utext)] [] misc Tryz.f83 (.nil) [.one (.int .i32 r)] (.one (.int .i64 (enc r).length))) : FnP 83 sp_tsize := by
  refine fnP_ok (cs := [(111, sp_utext)]) (cas := []) (ms := misc) (.cons ok_utext .nil) .nil misc_ok 83 Tryz.f83 (by kernel_rfl) (by kernel_rfl) (by kernel_rfl) (fun _ => .nil) ?_
  intro pvs p r hs hp
  unfold sp_tsize at hs
  simp only at hs
  split at hs
  · rename_i r
    cases hs
    refine h r ?_
    · exact hp
  · cases hs
theorem encs_one (r : Int) : encs [r] = enc r := by simp [encs]
theorem ok_tsize : FnP 83 sp_tsize := of_tsize (by
  intro r hr
  rw [vc_tsize]
  refine ⟨fun x hx => ?_, by simp, by rw [List.nil_append, encs_one]⟩
  rw [List.nil_append, List.mem_singleton] at hx
  rw [hx]; exact hr)
def sp_snext : ASpec := ⟨fun | [.one (.ptr 0 0)], [(0, some (.cells 101 [.slc 1, .int .i64 at_, .int .i64 op, .slc 2])), (1, some (.read (.ints .i32 l))), (2, some (.row 103 (.ivs ps)))] => some ([Scalars l, l ≠ [], 0 ≤ at_ ∧ at_ + 4 * l.length ≤ 4000000000, ps.length ≤ 1000000000], .tup [], (let x := scanStep l at_ op; [(0, some (.cells 101 [.slc 16, .int .i64 x.2.1, .int .i64 x.2.2.1, .slc 17])), (16, some (.read (.ints .i32 x.1))), (17, some (.row 103 (.ivs (ps ++ x.2.2.2))))])) | _, _ => none⟩
theorem vc_snext (l : List Int) (at_ op : Int) (ps : List Iv) : vcA [(83, sp_tsize)] [] misc Tryz.f58 (.turns 14 3 (fun _ => .nil) .nil) [.one (.ptr 0 0)] [(0, some (.cells 101 [.slc 1, .int .i64 at_, .int .i64 op, .slc 2])), (1, some (.read (.ints .i32 l))), (2, some (.row 103 (.ivs ps)))] (.tup []) (let x := scanStep l at_ op; [(0, some (.cells 101 [.slc 16, .int .i64 x.2.1, .int .i64 x.2.2.1, .slc 17])), (16, some (.read (.ints .i32 x.1))), (17, some (.row 103 (.ivs (ps ++ x.2.2.2))))]) = (letI v0 := (br (List.getD l (Int.toNat (0 : Int)) (0 : Int) == (39 : Int)) (scalar (List.getD l (Int.toNat (0 : Int)) (0 : Int)) = true ∧ inR IntKind.i64 (at_ + (↑(List.length (enc (List.getD l (Int.toNat (0 : Int)) (0 : Int)))) : Int)) ∧ inR IntKind.i64 ((0 : Int) + (1 : Int)) ∧ ((0 : Int) ≤ (1 : Int) ∧ (1 : Int) ≤ (↑(List.length l) : Int)) ∧ at_ + (↑(List.length (enc (List.getD l (Int.toNat (0 : Int)) (0 : Int)))) : Int) = (scanStep l at_ op).2.1 ∧ (-1 : Int) = (scanStep l at_ op).2.2.1 ∧ List.drop (Int.toNat (1 : Int)) (List.take (List.length l) l) = (scanStep l at_ op).1 ∧ ps = ps ++ (scanStep l at_ op).2.2.2) (br (decide (op < (0 : Int))) ((List.length ps + (1 : Nat)) * (16 : Nat) ≤ (140737488355328 : Nat) ∧ scalar (List.getD l (Int.toNat (0 : Int)) (0 : Int)) = true ∧ inR IntKind.i64 (at_ + (↑(List.length (enc (List.getD l (Int.toNat (0 : Int)) (0 : Int)))) : Int)) ∧ inR IntKind.i64 ((0 : Int) + (1 : Int)) ∧ ((0 : Int) ≤ (1 : Int) ∧ (1 : Int) ≤ (↑(List.length l) : Int)) ∧ at_ + (↑(List.length (enc (List.getD l (Int.toNat (0 : Int)) (0 : Int)))) : Int) = (scanStep l at_ op).2.1 ∧ op = (scanStep l at_ op).2.2.1 ∧ List.drop (Int.toNat (1 : Int)) (List.take (List.length l) l) = (scanStep l at_ op).1 ∧ ps ++ [Iv.plain (List.getD l (Int.toNat (0 : Int)) (0 : Int)) at_] = ps ++ (scanStep l at_ op).2.2.2) ((List.length ps + (1 : Nat)) * (16 : Nat) ≤ (140737488355328 : Nat) ∧ scalar (List.getD l (Int.toNat (0 : Int)) (0 : Int)) = true ∧ inR IntKind.i64 (at_ + (↑(List.length (enc (List.getD l (Int.toNat (0 : Int)) (0 : Int)))) : Int)) ∧ inR IntKind.i64 ((0 : Int) + (1 : Int)) ∧ ((0 : Int) ≤ (1 : Int) ∧ (1 : Int) ≤ (↑(List.length l) : Int)) ∧ at_ + (↑(List.length (enc (List.getD l (Int.toNat (0 : Int)) (0 : Int)))) : Int) = (scanStep l at_ op).2.1 ∧ op = (scanStep l at_ op).2.2.1 ∧ List.drop (Int.toNat (1 : Int)) (List.take (List.length l) l) = (scanStep l at_ op).1 ∧ ps ++ [Iv.quoted (List.getD l (Int.toNat (0 : Int)) (0 : Int)) at_] = ps ++ (scanStep l at_ op).2.2.2))); letI v1 := (br (List.getD l (Int.toNat (0 : Int)) (0 : Int) == (39 : Int)) (br (decide (op < (0 : Int))) (scalar (List.getD l (Int.toNat (0 : Int)) (0 : Int)) = true ∧ inR IntKind.i64 (at_ + (↑(List.length (enc (List.getD l (Int.toNat (0 : Int)) (0 : Int)))) : Int)) ∧ inR IntKind.i64 ((0 : Int) + (1 : Int)) ∧ ((0 : Int) ≤ (1 : Int) ∧ (1 : Int) ≤ (↑(List.length l) : Int)) ∧ at_ + (↑(List.length (enc (List.getD l (Int.toNat (0 : Int)) (0 : Int)))) : Int) = (scanStep l at_ op).2.1 ∧ at_ = (scanStep l at_ op).2.2.1 ∧ List.drop (Int.toNat (1 : Int)) (List.take (List.length l) l) = (scanStep l at_ op).1 ∧ ps = ps ++ (scanStep l at_ op).2.2.2) v0) v0); letI v2 := (↑(List.length (enc (List.getD l (Int.toNat (0 : Int)) (0 : Int)))) : Int); (((0 : Int) ≤ (0 : Int) ∧ (0 : Int) < (↑(List.length l) : Int)) ∧ Int.toNat (0 : Int) < List.length l ∧ br (List.getD l (Int.toNat (0 : Int)) (0 : Int) == (39 : Int)) (br (decide ((↑(List.length l) : Int) > (1 : Int))) (((0 : Int) ≤ (1 : Int) ∧ (1 : Int) < (↑(List.length l) : Int)) ∧ Int.toNat (1 : Int) < List.length l ∧ br (List.getD l (Int.toNat (1 : Int)) (0 : Int) == (39 : Int)) ((List.length ps + (1 : Nat)) * (16 : Nat) ≤ (140737488355328 : Nat) ∧ scalar (List.getD l (Int.toNat (0 : Int)) (0 : Int)) = true ∧ inR IntKind.i64 (at_ + v2) ∧ inR IntKind.i64 ((0 : Int) + (1 : Int)) ∧ scalar (List.getD l (Int.toNat (0 : Int)) (0 : Int)) = true ∧ inR IntKind.i64 (at_ + v2 + v2) ∧ inR IntKind.i64 ((0 : Int) + (1 : Int) + (1 : Int)) ∧ ((0 : Int) ≤ (2 : Int) ∧ (2 : Int) ≤ (↑(List.length l) : Int)) ∧ at_ + v2 + v2 = (scanStep l at_ op).2.1 ∧ op = (scanStep l at_ op).2.2.1 ∧ List.drop (Int.toNat (2 : Int)) (List.take (List.length l) l) = (scanStep l at_ op).1 ∧ ps ++ [Iv.quoted (39 : Int) at_] = ps ++ (scanStep l at_ op).2.2.2) v1) v1) v1)) := by kernel_rfl
set_option maxHeartbeats 4000000 in
theorem of_snext (h : ∀ (l : List Int) (at_ op : Int) (ps : List Iv), (Scalars l) → (l ≠ []) → (0 ≤ at_ ∧ at_ + 4 * l.length ≤ 4000000000) → (ps.length ≤ 1000000000) → vcA [(83, sp_tsize)] [] misc Tryz.f58 (.turns 14 3 (fun _ => .nil) .nil) [.one (.ptr 0 0)] [(0, some (.cells 101 [.slc 1, .int .i64 at_, .int .i64 op, .slc 2])), (1, some (.read (.ints .i32 l))), (2, some (.row 103 (.ivs ps)))] (.tup []) (let x := scanStep l at_ op; [(0, some (.cells 101 [.slc 16, .int .i64 x.2.1, .int .i64 x.2.2.1, .slc 17])), (16, some (.read (.ints .i32 x.1))), (17, some (.row 103 (.ivs (ps ++ x.2.2.2))))])) : FnA 58 sp_snext := by
  refine fnA_ok (cs := [(83, sp_tsize)]) (cas := []) (ms := misc) (.cons ok_tsize .nil) .nil misc_ok 58 Tryz.f58 (by kernel_rfl) (by kernel_rfl) (by kernel_rfl) (fun | [.one (.ptr 0 0)], [(0, some (.cells 101 [.slc 1, .int .i64 at_, .int .i64 op, .slc 2])), (1, some (.read (.ints .i32 l))), (2, some (.row 103 (.ivs ps)))] => .turns 14 3 (fun _ => .nil) .nil | _, _ => .nil) ?_
  intro args mem p r post hs hp
  unfold sp_snext at hs
  simp only at hs
  split at hs
  · rename_i at_ op l ps
    cases hs
    refine h l at_ op ps ?_ ?_ ?_ ?_
    · exact hp.1
    · exact hp.2.1
    · exact hp.2.2.1
    · exact hp.2.2.2
  · cases hs
theorem enc39 : (enc 39).length = 1 := by decide
set_option maxHeartbeats 2000000 in
theorem ok_snext : FnA 58 sp_snext := of_snext (by
  intro l at_ op ps hl hne hat hps
  rw [vc_snext]
  obtain ⟨r, m, rfl⟩ := List.exists_cons_of_ne_nil hne
  have hr : scalar r = true := hl r (by simp)
  have he := enc_len r
  have hlen : (r :: m).length = m.length + 1 := rfl
  have g0 : (r :: m).getD (Int.toNat 0) 0 = r := rfl
  have t0 : Int.toNat 0 = 0 := rfl
  have t1 : Int.toNat 1 = 1 := rfl
  have t2 : Int.toNat 2 = 2 := rfl
  rw [g0]
  have e8 := enc39
  have take_all : (r :: m).take (r :: m).length = r :: m := List.take_length
  refine ⟨⟨by omega, by omega⟩, by rw [t0]; omega, ?_⟩
  by_cases h39 : r = 39
  · subst h39
    have e1 : ((39 : Int) == 39) = true := rfl
    cases m with
    | nil =>
      have e2 : decide (((([39] : List Int).length : Nat) : Int) > 1) = false := by decide
      by_cases ho : op < 0
      · simp only [e1, e2, br, decide_eq_true ho, take_all]
        refine ⟨hr, by simp only [inR]; omega, by simp only [inR]; omega, ⟨by omega, by simp⟩, ?_, ?_, ?_, ?_⟩ <;> simp [scanStep, ho, e8, t1]
      · simp only [e1, e2, br, decide_eq_false ho, take_all]
        refine ⟨hr, by simp only [inR]; omega, by simp only [inR]; omega, ⟨by omega, by simp⟩, ?_, ?_, ?_, ?_⟩ <;> simp [scanStep, ho, e8, t1]
    | cons x m =>
      have e2 : decide ((((39 :: x :: m : List Int).length : Nat) : Int) > 1) = true := by simp; omega
      have e3 : (39 :: x :: m : List Int).getD (Int.toNat 1) 0 = x := rfl
      by_cases hx : x = 39
      · subst hx
        simp only [e1, e2, e3, br, take_all]
        refine ⟨⟨by omega, by simp; omega⟩, by simp [t1], by omega, hr, by simp only [inR]; omega, by simp only [inR]; omega, hr, by simp only [inR]; omega, by simp only [inR]; omega, ⟨by omega, by simp; omega⟩, ?_, ?_, ?_, ?_⟩ <;> simp [scanStep, e8, t2]
      · have e4 : (x == 39) = false := by simpa using hx
        by_cases ho : op < 0
        · simp only [e1, e2, e3, e4, br, decide_eq_true ho, take_all]
          refine ⟨⟨by omega, by simp; omega⟩, by simp [t1], hr, by simp only [inR]; omega, by simp only [inR]; omega, ⟨by omega, by simp; omega⟩, ?_, ?_, ?_, ?_⟩ <;> simp [scanStep, ho, e8, t1, hx]
        · simp only [e1, e2, e3, e4, br, decide_eq_false ho, take_all]
          refine ⟨⟨by omega, by simp; omega⟩, by simp [t1], hr, by simp only [inR]; omega, by simp only [inR]; omega, ⟨by omega, by simp; omega⟩, ?_, ?_, ?_, ?_⟩ <;> simp [scanStep, ho, e8, t1, hx]
  · have e1 : (r == 39) = false := by simpa using h39
    by_cases ho : op < 0
    · simp only [e1, br, decide_eq_true ho, take_all]
      refine ⟨by omega, hr, by simp only [inR]; omega, by simp only [inR]; omega, ⟨by omega, by simp; omega⟩, ?_, ?_, ?_, ?_⟩ <;> simp [scanStep, ho, h39, t1]
    · simp only [e1, br, decide_eq_false ho, take_all]
      refine ⟨by omega, hr, by simp only [inR]; omega, by simp only [inR]; omega, ⟨by omega, by simp; omega⟩, ?_, ?_, ?_, ?_⟩ <;> simp [scanStep, ho, h39, t1])
/-! ### figurehead/token.token -/
def Iv.tok : Iv → Tok
  | .single r q p => ⟨r, q, p⟩
  | .padding r p => ⟨r, false, p⟩
  | .plain r p => ⟨r, false, p⟩
  | .quoted r p => ⟨r, true, p⟩
def sp_tokenP : FSpec := ⟨[], fun | [.one (.iv (.plain r p))] => some ([], .agg [.int .i32 r, .bool false, .int .i64 p]) | _ => none⟩
theorem vc_tokenP (r p : Int) : vcP [] [] misc Tryz.f59 (.nil) [.one (.iv (.plain r p))] (.agg [.int .i32 r, .bool false, .int .i64 p]) = (Iv.isT (Iv.plain r p) = true ∧ Iv.lR (Iv.plain r p) = r ∧ false = false ∧ Iv.at_ (Iv.plain r p) = p) := by kernel_rfl
set_option maxHeartbeats 4000000 in
theorem of_tokenP (h : ∀ (r p : Int), vcP [] [] misc Tryz.f59 (.nil) [.one (.iv (.plain r p))] (.agg [.int .i32 r, .bool false, .int .i64 p])) : FnP 59 sp_tokenP := by
  refine fnP_ok (cs := []) (cas := []) (ms := misc) .nil .nil misc_ok 59 Tryz.f59 (by kernel_rfl) (by kernel_rfl) (by kernel_rfl) (fun _ => .nil) ?_
  intro pvs p r hs hp
  unfold sp_tokenP at hs
  simp only at hs
  split at hs
  · rename_i r p
    cases hs
    refine h r p
  · cases hs
def sp_tokenQ : FSpec := ⟨[], fun | [.one (.iv (.quoted r p))] => some ([], .agg [.int .i32 r, .bool true, .int .i64 p]) | _ => none⟩
theorem vc_tokenQ (r p : Int) : vcP [] [] misc Tryz.f59 (.nil) [.one (.iv (.quoted r p))] (.agg [.int .i32 r, .bool true, .int .i64 p]) = (Iv.isT (Iv.quoted r p) = true ∧ Iv.qR (Iv.quoted r p) = r ∧ true = true ∧ Iv.at_ (Iv.quoted r p) = p) := by kernel_rfl
set_option maxHeartbeats 4000000 in
theorem of_tokenQ (h : ∀ (r p : Int), vcP [] [] misc Tryz.f59 (.nil) [.one (.iv (.quoted r p))] (.agg [.int .i32 r, .bool true, .int .i64 p])) : FnP 59 sp_tokenQ := by
  refine fnP_ok (cs := []) (cas := []) (ms := misc) .nil .nil misc_ok 59 Tryz.f59 (by kernel_rfl) (by kernel_rfl) (by kernel_rfl) (fun _ => .nil) ?_
  intro pvs p r hs hp
  unfold sp_tokenQ at hs
  simp only at hs
  split at hs
  · rename_i r p
    cases hs
    refine h r p
  · cases hs
def sp_token : FSpec := ⟨[], fun | [.one (.iv y)] => some ([y.isT = true], .agg [.int .i32 y.tok.r, .bool y.tok.q, .int .i64 y.tok.p]) | _ => none⟩
theorem ok_tokenP : FnP 59 sp_tokenP := of_tokenP (by intro r p; rw [vc_tokenP]; exact ⟨rfl, rfl, rfl, rfl⟩)
theorem ok_tokenQ : FnP 59 sp_tokenQ := of_tokenQ (by intro r p; rw [vc_tokenQ]; exact ⟨rfl, rfl, rfl, rfl⟩)
theorem ok_token : FnP 59 sp_token := by
  refine ⟨ok_tokenP.body, ?_⟩
  intro pvs p r hs hp
  unfold sp_token at hs
  simp only at hs
  split at hs
  · rename_i y
    cases hs
    cases y with
    | plain r p => exact ok_tokenP.calls _ [] _ rfl trivial
    | quoted r p => exact ok_tokenQ.calls _ [] _ rfl trivial
    | single r q p => exact absurd hp Bool.false_ne_true
    | padding r p => exact absurd hp Bool.false_ne_true
  · cases hs
/-! ### figurehead/token.Scan -/
def scanN : Nat → List Int → Int → Int → Int × List Iv
  | 0, _, _, o => (o, [])
  | _ + 1, [], _, o => (o, [])
  | n + 1, r :: m, a, o =>
    let x := scanStep (r :: m) a o
    let y := scanN n x.1 x.2.1 x.2.2.1
    (y.1, x.2.2.2 ++ y.2)
def scanF (s : List UInt8) : Int × List Iv := scanN (decomp s).1.length (decomp s).1 0 (-1)
/-- What 'Scan' answers: the tokens, the fault. -/
def scanT (s : List UInt8) : List Tok × Int × Int :=
  if 0 ≤ badAt s then ([], 2, badAt s)
  else if 0 ≤ (scanF s).1 then ([], 3, (scanF s).1)
  else if 400 < (scanF s).2.length then ([], 8, 0)
  else ((scanF s).2.map Iv.tok, 0, 0)
structure SS (l : List Int) (F : Int × List Iv) where
  n : Nat
  rest : List Int
  at_ : Int
  op : Int
  ps : List Iv
  sc : Scalars rest
  fuel : rest.length ≤ n
  at0 : 0 ≤ at_
  big : at_ + 4 * rest.length ≤ 4 * l.length
  few : ps.length + rest.length ≤ l.length
  isT : ∀ y ∈ ps, Iv.isT y = true
  fin1 : (scanN n rest at_ op).1 = F.1
  fin2 : ps ++ (scanN n rest at_ op).2 = F.2
def sp_tscan : FSpec := ⟨[], fun | [.one (.str s)] => some ([s.length ≤ 1000000], .tup [(false, [.rd (.toks (scanT s).1)]), (true, [.int .i64 (scanT s).2.1, .int .i64 (scanT s).2.2])]) | _ => none⟩
theorem vc_tscan (s : List UInt8) : vcP [(56, sp_bad), (57, sp_urunes), (59, sp_token)] [(58, sp_snext)] misc Tryz.f30 (.loop 6 (SS (decomp s).1 (scanF s)) (fun x => ⟨[(3, .one (.ptr 16 0)), (7, .one (.ptr 17 0))], [(16, some (.cells 28 [.int .i64 0, .int .i64 0])), (17, some (.cells 101 [.slc 18, .int .i64 x.at_, .int .i64 x.op, .slc 19])), (18, some (.read (.ints .i32 x.rest))), (19, some (.row 103 (.ivs x.ps)))], 20⟩) (fun x => x.rest.length) (fun _ => .nil) (.loop 14 (Upto (scanF s).2) (fun i => ⟨[(3, .one (.ptr 16 0)), (8, .one (.slc 20)), (47, .one (.slc 19)), (48, .one (.int .i64 (scanF s).2.length)), (49, .one (.int .i64 i.1))], [(16, some (.cells 28 [.int .i64 0, .int .i64 0])), (19, some (.row 103 (.ivs (scanF s).2))), (20, some (.row 71 (.toks (((scanF s).2.take i.1).map Iv.tok))))], 21⟩) (fun i => (scanF s).2.length - i.1) (fun _ => .nil) .nil)) [.one (.str s)] (.tup [(false, [.rd (.toks (scanT s).1)]), (true, [.int .i64 (scanT s).2.1, .int .i64 (scanT s).2.2])]) = (letI v0 := (↑(List.length (scanF s).2) : Int); (List.length s ≤ (1000000000 : Nat) ∧ br (decide (badAt s ≥ (0 : Int))) ([] = (scanT s).1 ∧ (2 : Int) = (scanT s).2.1 ∧ badAt s = (scanT s).2.2) (List.length s ≤ (1000000000 : Nat) ∧ (∃ (x : SS (Prod.fst (decomp s)) (scanF s)), (0 : Int) = (0 : Int) ∧ (0 : Int) = (0 : Int) ∧ (0 : Int) = SS.at_ x ∧ (-1 : Int) = SS.op x ∧ (if badAt s < (0 : Int) then (decomp s).1 else []) = SS.rest x ∧ SS.ps x = []) ∧ ∀ (x : SS (Prod.fst (decomp s)) (scanF s)), br (decide ((↑(List.length (SS.rest x)) : Int) > (0 : Int))) ((∀ (r : Int), r ∈ SS.rest x → scalar r = true) ∧ SS.rest x ≠ [] ∧ ((0 : Int) ≤ SS.at_ x ∧ SS.at_ x + (4 : Int) * (↑(List.length (SS.rest x)) : Int) ≤ (4000000000 : Int)) ∧ List.length (SS.ps x) ≤ (1000000000 : Nat) ∧ ∃ (x' : SS (Prod.fst (decomp s)) (scanF s)), ((0 : Int) = (0 : Int) ∧ (0 : Int) = (0 : Int) ∧ (scanStep (SS.rest x) (SS.at_ x) (SS.op x)).2.1 = SS.at_ x' ∧ (scanStep (SS.rest x) (SS.at_ x) (SS.op x)).2.2.1 = SS.op x' ∧ (scanStep (SS.rest x) (SS.at_ x) (SS.op x)).1 = SS.rest x' ∧ SS.ps x ++ (scanStep (SS.rest x) (SS.at_ x) (SS.op x)).2.2.2 = SS.ps x') ∧ List.length (SS.rest x') < List.length (SS.rest x)) (br (decide (SS.op x ≥ (0 : Int))) ([] = (scanT s).1 ∧ (3 : Int) = (scanT s).2.1 ∧ SS.op x = (scanT s).2.2) (br (decide ((↑(List.length (SS.ps x)) : Int) > (400 : Int))) ([] = (scanT s).1 ∧ (8 : Int) = (scanT s).2.1 ∧ (0 : Int) = (scanT s).2.2) ((0 : Int) = (0 : Int) ∧ ((0 : Int) ≤ (↑(List.length (SS.ps x)) : Int) ∧ (↑(List.length (SS.ps x)) : Int) ≤ (140737488355327 : Int) ∧ (16 : Nat) * Int.toNat (↑(List.length (SS.ps x)) : Int) ≤ (281474976710656 : Nat)) ∧ (∃ (x_1 : Upto (Prod.snd (scanF s))), (↑(List.length (SS.ps x)) : Int) = v0 ∧ (0 : Int) = (↑(Subtype.val x_1) : Int) ∧ (0 : Int) = (0 : Int) ∧ (0 : Int) = (0 : Int) ∧ SS.ps x = (scanF s).2 ∧ [] = List.map Iv.tok (List.take (Subtype.val x_1) (scanF s).2)) ∧ ∀ (x : Upto (Prod.snd (scanF s))), br (decide ((↑(Subtype.val x) : Int) < v0)) (((0 : Int) ≤ (↑(Subtype.val x) : Int) ∧ (↑(Subtype.val x) : Int) < v0) ∧ Int.toNat (↑(Subtype.val x) : Int) < List.length (scanF s).2 ∧ Iv.isT (List.getD (scanF s).2 (Int.toNat (↑(Subtype.val x) : Int)) default) = true ∧ (List.length (List.map Iv.tok (List.take (Subtype.val x) (scanF s).2)) + (1 : Nat)) * (16 : Nat) ≤ (140737488355328 : Nat) ∧ inR IntKind.i64 ((↑(Subtype.val x) : Int) + (1 : Int)) ∧ ∃ (x' : Upto (Prod.snd (scanF s))), (v0 = v0 ∧ (↑(Subtype.val x) : Int) + (1 : Int) = (↑(Subtype.val x') : Int) ∧ (0 : Int) = (0 : Int) ∧ (0 : Int) = (0 : Int) ∧ (scanF s).2 = (scanF s).2 ∧ List.map Iv.tok (List.take (Subtype.val x) (scanF s).2) ++ [{ r := Tok.r (Iv.tok (List.getD (scanF s).2 (Int.toNat (↑(Subtype.val x) : Int)) default)), q := Tok.q (Iv.tok (List.getD (scanF s).2 (Int.toNat (↑(Subtype.val x) : Int)) default)), p := Tok.p (Iv.tok (List.getD (scanF s).2 (Int.toNat (↑(Subtype.val x) : Int)) default)) }] = List.map Iv.tok (List.take (Subtype.val x') (scanF s).2)) ∧ List.length (scanF s).2 - Subtype.val x' < List.length (scanF s).2 - Subtype.val x) (List.map Iv.tok (List.take (Subtype.val x) (scanF s).2) = (scanT s).1 ∧ (0 : Int) = (scanT s).2.1 ∧ (0 : Int) = (scanT s).2.2))))))) := by kernel_rfl
set_option maxHeartbeats 4000000 in
theorem of_tscan (h : ∀ (s : List UInt8), (s.length ≤ 1000000) → vcP [(56, sp_bad), (57, sp_urunes), (59, sp_token)] [(58, sp_snext)] misc Tryz.f30 (.loop 6 (SS (decomp s).1 (scanF s)) (fun x => ⟨[(3, .one (.ptr 16 0)), (7, .one (.ptr 17 0))], [(16, some (.cells 28 [.int .i64 0, .int .i64 0])), (17, some (.cells 101 [.slc 18, .int .i64 x.at_, .int .i64 x.op, .slc 19])), (18, some (.read (.ints .i32 x.rest))), (19, some (.row 103 (.ivs x.ps)))], 20⟩) (fun x => x.rest.length) (fun _ => .nil) (.loop 14 (Upto (scanF s).2) (fun i => ⟨[(3, .one (.ptr 16 0)), (8, .one (.slc 20)), (47, .one (.slc 19)), (48, .one (.int .i64 (scanF s).2.length)), (49, .one (.int .i64 i.1))], [(16, some (.cells 28 [.int .i64 0, .int .i64 0])), (19, some (.row 103 (.ivs (scanF s).2))), (20, some (.row 71 (.toks (((scanF s).2.take i.1).map Iv.tok))))], 21⟩) (fun i => (scanF s).2.length - i.1) (fun _ => .nil) .nil)) [.one (.str s)] (.tup [(false, [.rd (.toks (scanT s).1)]), (true, [.int .i64 (scanT s).2.1, .int .i64 (scanT s).2.2])])) : FnP 30 sp_tscan := by
  refine fnP_ok (cs := [(56, sp_bad), (57, sp_urunes), (59, sp_token)]) (cas := [(58, sp_snext)]) (ms := misc) (.cons ok_bad (.cons ok_urunes (.cons ok_token .nil))) (.cons ok_snext .nil) misc_ok 30 Tryz.f30 (by kernel_rfl) (by kernel_rfl) (by kernel_rfl) (fun | [.one (.str s)] => .loop 6 (SS (decomp s).1 (scanF s)) (fun x => ⟨[(3, .one (.ptr 16 0)), (7, .one (.ptr 17 0))], [(16, some (.cells 28 [.int .i64 0, .int .i64 0])), (17, some (.cells 101 [.slc 18, .int .i64 x.at_, .int .i64 x.op, .slc 19])), (18, some (.read (.ints .i32 x.rest))), (19, some (.row 103 (.ivs x.ps)))], 20⟩) (fun x => x.rest.length) (fun _ => .nil) (.loop 14 (Upto (scanF s).2) (fun i => ⟨[(3, .one (.ptr 16 0)), (8, .one (.slc 20)), (47, .one (.slc 19)), (48, .one (.int .i64 (scanF s).2.length)), (49, .one (.int .i64 i.1))], [(16, some (.cells 28 [.int .i64 0, .int .i64 0])), (19, some (.row 103 (.ivs (scanF s).2))), (20, some (.row 71 (.toks (((scanF s).2.take i.1).map Iv.tok))))], 21⟩) (fun i => (scanF s).2.length - i.1) (fun _ => .nil) .nil) | _ => .nil) ?_
  intro pvs p r hs hp
  unfold sp_tscan at hs
  simp only at hs
  split at hs
  · rename_i s
    cases hs
    refine h s ?_
    · exact hp
  · cases hs
theorem Scalars.tail {r : Int} {l : List Int} (h : Scalars (r :: l)) : Scalars l := fun x hx => h x (List.mem_cons_of_mem _ hx)
theorem scanStep_facts {l : List Int} (hl : Scalars l) (hne : l ≠ []) (a o : Int) :
    Scalars (scanStep l a o).1 ∧ (scanStep l a o).1.length < l.length ∧ a < (scanStep l a o).2.1 ∧ (scanStep l a o).2.1 + 4 * (scanStep l a o).1.length ≤ a + 4 * l.length ∧
    (scanStep l a o).2.2.2.length + (scanStep l a o).1.length ≤ l.length ∧ (∀ y ∈ (scanStep l a o).2.2.2, Iv.isT y = true) := by
  obtain ⟨r, m, rfl⟩ := List.exists_cons_of_ne_nil hne
  have he := enc_len r
  have hm := hl.tail
  by_cases h39 : r = 39
  · subst h39
    cases m with
    | nil => by_cases ho : o < 0 <;> simp [scanStep, ho, hm] <;> omega
    | cons x m =>
      by_cases hx : x = 39
      · subst hx
        simp [scanStep, hm.tail, Iv.isT]; omega
      · by_cases ho : o < 0 <;> simp [scanStep, ho, hx, hm] <;> omega
  · by_cases ho : o < 0 <;> simp [scanStep, ho, h39, hm, Iv.isT] <;> omega
theorem scanN_isT : ∀ (n : Nat) (l : List Int) (a o : Int), Scalars l → (∀ y ∈ (scanN n l a o).2, Iv.isT y = true) ∧ (scanN n l a o).2.length ≤ l.length := by
  intro n
  induction n with
  | zero => intro l a o _; exact ⟨fun y hy => (by cases hy), Nat.zero_le _⟩
  | succ n ih =>
    intro l a o hl
    cases l with
    | nil => exact ⟨fun y hy => (by cases hy), Nat.zero_le _⟩
    | cons r m =>
      obtain ⟨h1, h2, h3, h4, h5, h6⟩ := scanStep_facts hl (by simp) a o
      obtain ⟨g1, g2⟩ := ih (scanStep (r :: m) a o).1 (scanStep (r :: m) a o).2.1 (scanStep (r :: m) a o).2.2.1 h1
      refine ⟨fun y hy => ?_, ?_⟩
      · rcases List.mem_append.1 hy with hy | hy
        · exact h6 y hy
        · exact g1 y hy
      · show (_ ++ _ : List Iv).length ≤ _
        rw [List.length_append]; omega
theorem scanF_isT (s : List UInt8) : (∀ y ∈ (scanF s).2, Iv.isT y = true) ∧ (scanF s).2.length ≤ (decomp s).1.length := scanN_isT _ _ _ _ (decomp_ok s).2.1
theorem decomp_len (s : List UInt8) : (decomp s).1.length ≤ s.length := by
  have h := congrArg List.length (decomp_ok s).1
  have := (encs_len (decomp s).1).1
  rw [List.length_append] at h
  omega
theorem SS.unroll {l : List Int} {F : Int × List Iv} (x : SS l F) (h : x.rest ≠ []) : scanN x.n x.rest x.at_ x.op = ((scanN (x.n - 1) (scanStep x.rest x.at_ x.op).1 (scanStep x.rest x.at_ x.op).2.1 (scanStep x.rest x.at_ x.op).2.2.1).1, (scanStep x.rest x.at_ x.op).2.2.2 ++ (scanN (x.n - 1) (scanStep x.rest x.at_ x.op).1 (scanStep x.rest x.at_ x.op).2.1 (scanStep x.rest x.at_ x.op).2.2.1).2) := by
  have hn : x.n ≠ 0 := by
    intro h0
    have := x.fuel
    rw [h0] at this
    exact h (List.eq_nil_of_length_eq_zero (by omega))
  obtain ⟨k, hk⟩ := Nat.exists_eq_succ_of_ne_zero hn
  obtain ⟨r, m, hr⟩ := List.exists_cons_of_ne_nil h
  rw [hk, hr]; rfl
/-- One turn. -/
def SS.next {l : List Int} {F : Int × List Iv} (x : SS l F) (h : x.rest ≠ []) : SS l F where
  n := x.n - 1
  rest := (scanStep x.rest x.at_ x.op).1
  at_ := (scanStep x.rest x.at_ x.op).2.1
  op := (scanStep x.rest x.at_ x.op).2.2.1
  ps := x.ps ++ (scanStep x.rest x.at_ x.op).2.2.2
  sc := (scanStep_facts x.sc h x.at_ x.op).1
  fuel := by
    have := x.fuel
    have := (scanStep_facts x.sc h x.at_ x.op).2.1
    omega
  at0 := by
    have := x.at0
    have := (scanStep_facts x.sc h x.at_ x.op).2.2.1
    omega
  big := by
    have := x.big
    have := (scanStep_facts x.sc h x.at_ x.op).2.2.2.1
    omega
  few := by
    have := x.few
    have := (scanStep_facts x.sc h x.at_ x.op).2.2.2.2.1
    rw [List.length_append]; omega
  isT := fun y hy => by
    rcases List.mem_append.1 hy with hy | hy
    · exact x.isT y hy
    · exact (scanStep_facts x.sc h x.at_ x.op).2.2.2.2.2 y hy
  fin1 := by
    have h1 := x.fin1
    rw [x.unroll h] at h1; exact h1
  fin2 := by
    have h1 := x.fin2
    rw [x.unroll h] at h1
    rw [List.append_assoc]; exact h1
theorem SS.done {l : List Int} {F : Int × List Iv} (x : SS l F) (h : x.rest = []) : x.op = F.1 ∧ x.ps = F.2 := by
  have h1 := x.fin1
  have h2 := x.fin2
  rw [h] at h1 h2
  cases hn : x.n with
  | zero => rw [hn] at h1 h2; exact ⟨h1, by rw [← h2]; exact (List.append_nil _).symm⟩
  | succ n => rw [hn] at h1 h2; exact ⟨h1, by rw [← h2]; exact (List.append_nil _).symm⟩
def SS.zero (s : List UInt8) : SS (decomp s).1 (scanF s) where
  n := (decomp s).1.length
  rest := (decomp s).1
  at_ := 0
  op := -1
  ps := []
  sc := (decomp_ok s).2.1
  fuel := Nat.le_refl _
  at0 := Int.le_refl _
  big := by omega
  few := by simp
  isT := fun y hy => by cases hy
  fin1 := rfl
  fin2 := rfl
theorem ok_tscan : FnP 30 sp_tscan := of_tscan (by
  intro s hs
  rw [vc_tscan]
  have hdl := decomp_len s
  refine ⟨by omega, br_of (fun h => ?_) fun h => ⟨by omega, ⟨.zero s, rfl, rfl, rfl, rfl, ?_, rfl⟩, fun x => br_of (fun h1 => ?_) fun h1 => ?_⟩⟩
  · have h : badAt s ≥ 0 := by simpa using h
    unfold scanT
    rw [if_pos h]; exact ⟨rfl, rfl, rfl⟩
  · have h : badAt s < 0 := by simpa using h
    rw [if_pos h]; rfl
  · have h1 : x.rest.length > 0 := by simpa using h1
    have hne : x.rest ≠ [] := by intro h0; rw [h0] at h1; exact absurd h1 (by decide)
    have a0 := x.at0
    have a1 := x.big
    have a2 := x.few
    exact ⟨x.sc, hne, ⟨a0, by omega⟩, by omega, x.next hne, ⟨rfl, rfl, rfl, rfl, rfl, rfl⟩, (scanStep_facts x.sc hne _ _).2.1⟩
  · have h : ¬ 0 ≤ badAt s := by simpa using h
    have h1 : ¬ x.rest.length > 0 := by simpa using h1
    obtain ⟨e1, e2⟩ := x.done (List.eq_nil_of_length_eq_zero (by omega))
    have hfl := (scanF_isT s).2
    unfold scanT
    rw [if_neg h, e1, e2]
    refine br_of (fun h2 => ?_) fun h2 => br_of (fun h3 => ?_) fun h3 => ⟨rfl, by omega, ⟨⟨0, Nat.zero_le _⟩, rfl, rfl, rfl, rfl, rfl, rfl⟩, fun i => br_of (fun h4 => ?_) fun h4 => ?_⟩
    · have h2 : 0 ≤ (scanF s).1 := by simpa using h2
      rw [if_pos h2]; exact ⟨rfl, rfl, rfl⟩
    · have h2 : ¬ 0 ≤ (scanF s).1 := by simpa using h2
      have h3 : 400 < (scanF s).2.length := by have := of_decide_eq_true h3; omega
      rw [if_neg h2, if_pos h3]; exact ⟨rfl, rfl, rfl⟩
    · have h4 : i.1 < (scanF s).2.length := by simpa using h4
      rw [Int.toNat_natCast]
      refine ⟨⟨by omega, by omega⟩, h4, (scanF_isT s).1 _ (getD_mem' h4), ?_, by simp only [inR]; omega, ⟨i.1 + 1, h4⟩, ⟨rfl, rfl, rfl, rfl, rfl, ?_⟩, ?_⟩
      · rw [List.length_map, List.length_take]; omega
      · show _ = List.map Iv.tok ((scanF s).2.take (i.1 + 1))
        rw [take_next _ default h4, List.map_append]; rfl
      · show (scanF s).2.length - (i.1 + 1) < _; omega
    · have h2 : ¬ 0 ≤ (scanF s).1 := by simpa using h2
      have h3 : ¬ 400 < (scanF s).2.length := by have := of_decide_eq_false h3; omega
      have h4 : ¬ i.1 < (scanF s).2.length := by simpa using h4
      rw [if_neg h2, if_neg h3, List.take_of_length_le (by omega)]
      exact ⟨rfl, rfl, rfl⟩)
/-! ### figureheadref13.Scan -/
def SR (s : List UInt8) : Type := {x : SS (decomp s).1 (scanF s) // badAt s < 0 → s.drop x.at_.toNat = encs x.rest ∧ x.at_.toNat ≤ s.length}
def sp_rscan : FSpec := ⟨[], fun | [.one (.str s)] => some ([s.length ≤ 1000000], .tup [(false, [.rd (.toks (scanT s).1)]), (true, [.int .i64 (scanT s).2.1, .int .i64 (scanT s).2.2])]) | _ => none⟩
theorem vc_rscan (s : List UInt8) : vcP [(54, sp_rrunes), (55, sp_first)] [] misc Tryz.f28 (.loop 7 (SR s) (fun x => ⟨[(0, .one (.str s)), (3, .one (.ptr 16 0)), (6, .one (.slc 17)), (7, .one (.int .i64 x.1.op)), (8, .one (.int .i64 x.1.at_))], [(16, some (.cells 28 [.int .i64 0, .int .i64 0])), (17, some (.row 71 (.toks (x.1.ps.map Iv.tok))))], 18⟩) (fun x => x.1.rest.length) (fun _ => .nil) .nil) [.one (.str s)] (.tup [(false, [.rd (.toks (scanT s).1)]), (true, [.int .i64 (scanT s).2.1, .int .i64 (scanT s).2.2])]) = (List.length s ≤ (1000000000 : Nat) ∧ br (decide (badAt s ≥ (0 : Int))) ([] = (scanT s).1 ∧ (2 : Int) = (scanT s).2.1 ∧ badAt s = (scanT s).2.2) ((∃ (x : SR s), s = s ∧ (-1 : Int) = SS.op (Subtype.val x) ∧ (0 : Int) = SS.at_ (Subtype.val x) ∧ (0 : Int) = (0 : Int) ∧ (0 : Int) = (0 : Int) ∧ List.map Iv.tok (SS.ps (Subtype.val x)) = []) ∧ ∀ (x : SR s), br (decide (SS.at_ (Subtype.val x) < (↑(List.length s) : Int))) (((0 : Int) ≤ SS.at_ (Subtype.val x) ∧ SS.at_ (Subtype.val x) ≤ (↑(List.length s) : Int)) ∧ br (firstR (List.drop (Int.toNat (SS.at_ (Subtype.val x))) s) == (39 : Int)) (inR IntKind.i64 (SS.at_ (Subtype.val x) + (1 : Int)) ∧ br (decide (SS.at_ (Subtype.val x) + (1 : Int) < (↑(List.length s) : Int))) (inR IntKind.i64 (SS.at_ (Subtype.val x) + (1 : Int)) ∧ ((0 : Int) ≤ SS.at_ (Subtype.val x) + (1 : Int) ∧ SS.at_ (Subtype.val x) + (1 : Int) < (↑(List.length s) : Int)) ∧ br (bAt s (SS.at_ (Subtype.val x) + (1 : Int)) == (39 : Int)) ((List.length (List.map Iv.tok (SS.ps (Subtype.val x))) + (1 : Nat)) * (16 : Nat) ≤ (140737488355328 : Nat) ∧ inR IntKind.i64 (SS.at_ (Subtype.val x) + (2 : Int)) ∧ ∃ (x' : SR s), (s = s ∧ SS.op (Subtype.val x) = SS.op (Subtype.val x') ∧ SS.at_ (Subtype.val x) + (2 : Int) = SS.at_ (Subtype.val x') ∧ (0 : Int) = (0 : Int) ∧ (0 : Int) = (0 : Int) ∧ List.map Iv.tok (SS.ps (Subtype.val x)) ++ [{ r := firstR (List.drop (Int.toNat (SS.at_ (Subtype.val x))) s), q := true, p := SS.at_ (Subtype.val x) }] = List.map Iv.tok (SS.ps (Subtype.val x'))) ∧ List.length (SS.rest (Subtype.val x')) < List.length (SS.rest (Subtype.val x))) (br (firstR (List.drop (Int.toNat (SS.at_ (Subtype.val x))) s) == (39 : Int)) (br (decide (SS.op (Subtype.val x) ≥ (0 : Int))) (inR IntKind.i64 (SS.at_ (Subtype.val x) + firstN (List.drop (Int.toNat (SS.at_ (Subtype.val x))) s)) ∧ ∃ (x' : SR s), (s = s ∧ (-1 : Int) = SS.op (Subtype.val x') ∧ SS.at_ (Subtype.val x) + firstN (List.drop (Int.toNat (SS.at_ (Subtype.val x))) s) = SS.at_ (Subtype.val x') ∧ (0 : Int) = (0 : Int) ∧ (0 : Int) = (0 : Int) ∧ List.map Iv.tok (SS.ps (Subtype.val x)) = List.map Iv.tok (SS.ps (Subtype.val x'))) ∧ List.length (SS.rest (Subtype.val x')) < List.length (SS.rest (Subtype.val x))) (inR IntKind.i64 (SS.at_ (Subtype.val x) + firstN (List.drop (Int.toNat (SS.at_ (Subtype.val x))) s)) ∧ ∃ (x' : SR s), (s = s ∧ SS.at_ (Subtype.val x) = SS.op (Subtype.val x') ∧ SS.at_ (Subtype.val x) + firstN (List.drop (Int.toNat (SS.at_ (Subtype.val x))) s) = SS.at_ (Subtype.val x') ∧ (0 : Int) = (0 : Int) ∧ (0 : Int) = (0 : Int) ∧ List.map Iv.tok (SS.ps (Subtype.val x)) = List.map Iv.tok (SS.ps (Subtype.val x'))) ∧ List.length (SS.rest (Subtype.val x')) < List.length (SS.rest (Subtype.val x)))) ((List.length (List.map Iv.tok (SS.ps (Subtype.val x))) + (1 : Nat)) * (16 : Nat) ≤ (140737488355328 : Nat) ∧ inR IntKind.i64 (SS.at_ (Subtype.val x) + firstN (List.drop (Int.toNat (SS.at_ (Subtype.val x))) s)) ∧ ∃ (x' : SR s), (s = s ∧ SS.op (Subtype.val x) = SS.op (Subtype.val x') ∧ SS.at_ (Subtype.val x) + firstN (List.drop (Int.toNat (SS.at_ (Subtype.val x))) s) = SS.at_ (Subtype.val x') ∧ (0 : Int) = (0 : Int) ∧ (0 : Int) = (0 : Int) ∧ List.map Iv.tok (SS.ps (Subtype.val x)) ++ [{ r := firstR (List.drop (Int.toNat (SS.at_ (Subtype.val x))) s), q := decide (SS.op (Subtype.val x) ≥ (0 : Int)), p := SS.at_ (Subtype.val x) }] = List.map Iv.tok (SS.ps (Subtype.val x'))) ∧ List.length (SS.rest (Subtype.val x')) < List.length (SS.rest (Subtype.val x))))) (br (firstR (List.drop (Int.toNat (SS.at_ (Subtype.val x))) s) == (39 : Int)) (br (decide (SS.op (Subtype.val x) ≥ (0 : Int))) (inR IntKind.i64 (SS.at_ (Subtype.val x) + firstN (List.drop (Int.toNat (SS.at_ (Subtype.val x))) s)) ∧ ∃ (x' : SR s), (s = s ∧ (-1 : Int) = SS.op (Subtype.val x') ∧ SS.at_ (Subtype.val x) + firstN (List.drop (Int.toNat (SS.at_ (Subtype.val x))) s) = SS.at_ (Subtype.val x') ∧ (0 : Int) = (0 : Int) ∧ (0 : Int) = (0 : Int) ∧ List.map Iv.tok (SS.ps (Subtype.val x)) = List.map Iv.tok (SS.ps (Subtype.val x'))) ∧ List.length (SS.rest (Subtype.val x')) < List.length (SS.rest (Subtype.val x))) (inR IntKind.i64 (SS.at_ (Subtype.val x) + firstN (List.drop (Int.toNat (SS.at_ (Subtype.val x))) s)) ∧ ∃ (x' : SR s), (s = s ∧ SS.at_ (Subtype.val x) = SS.op (Subtype.val x') ∧ SS.at_ (Subtype.val x) + firstN (List.drop (Int.toNat (SS.at_ (Subtype.val x))) s) = SS.at_ (Subtype.val x') ∧ (0 : Int) = (0 : Int) ∧ (0 : Int) = (0 : Int) ∧ List.map Iv.tok (SS.ps (Subtype.val x)) = List.map Iv.tok (SS.ps (Subtype.val x'))) ∧ List.length (SS.rest (Subtype.val x')) < List.length (SS.rest (Subtype.val x)))) ((List.length (List.map Iv.tok (SS.ps (Subtype.val x))) + (1 : Nat)) * (16 : Nat) ≤ (140737488355328 : Nat) ∧ inR IntKind.i64 (SS.at_ (Subtype.val x) + firstN (List.drop (Int.toNat (SS.at_ (Subtype.val x))) s)) ∧ ∃ (x' : SR s), (s = s ∧ SS.op (Subtype.val x) = SS.op (Subtype.val x') ∧ SS.at_ (Subtype.val x) + firstN (List.drop (Int.toNat (SS.at_ (Subtype.val x))) s) = SS.at_ (Subtype.val x') ∧ (0 : Int) = (0 : Int) ∧ (0 : Int) = (0 : Int) ∧ List.map Iv.tok (SS.ps (Subtype.val x)) ++ [{ r := firstR (List.drop (Int.toNat (SS.at_ (Subtype.val x))) s), q := decide (SS.op (Subtype.val x) ≥ (0 : Int)), p := SS.at_ (Subtype.val x) }] = List.map Iv.tok (SS.ps (Subtype.val x'))) ∧ List.length (SS.rest (Subtype.val x')) < List.length (SS.rest (Subtype.val x))))) (br (firstR (List.drop (Int.toNat (SS.at_ (Subtype.val x))) s) == (39 : Int)) (br (decide (SS.op (Subtype.val x) ≥ (0 : Int))) (inR IntKind.i64 (SS.at_ (Subtype.val x) + firstN (List.drop (Int.toNat (SS.at_ (Subtype.val x))) s)) ∧ ∃ (x' : SR s), (s = s ∧ (-1 : Int) = SS.op (Subtype.val x') ∧ SS.at_ (Subtype.val x) + firstN (List.drop (Int.toNat (SS.at_ (Subtype.val x))) s) = SS.at_ (Subtype.val x') ∧ (0 : Int) = (0 : Int) ∧ (0 : Int) = (0 : Int) ∧ List.map Iv.tok (SS.ps (Subtype.val x)) = List.map Iv.tok (SS.ps (Subtype.val x'))) ∧ List.length (SS.rest (Subtype.val x')) < List.length (SS.rest (Subtype.val x))) (inR IntKind.i64 (SS.at_ (Subtype.val x) + firstN (List.drop (Int.toNat (SS.at_ (Subtype.val x))) s)) ∧ ∃ (x' : SR s), (s = s ∧ SS.at_ (Subtype.val x) = SS.op (Subtype.val x') ∧ SS.at_ (Subtype.val x) + firstN (List.drop (Int.toNat (SS.at_ (Subtype.val x))) s) = SS.at_ (Subtype.val x') ∧ (0 : Int) = (0 : Int) ∧ (0 : Int) = (0 : Int) ∧ List.map Iv.tok (SS.ps (Subtype.val x)) = List.map Iv.tok (SS.ps (Subtype.val x'))) ∧ List.length (SS.rest (Subtype.val x')) < List.length (SS.rest (Subtype.val x)))) ((List.length (List.map Iv.tok (SS.ps (Subtype.val x))) + (1 : Nat)) * (16 : Nat) ≤ (140737488355328 : Nat) ∧ inR IntKind.i64 (SS.at_ (Subtype.val x) + firstN (List.drop (Int.toNat (SS.at_ (Subtype.val x))) s)) ∧ ∃ (x' : SR s), (s = s ∧ SS.op (Subtype.val x) = SS.op (Subtype.val x') ∧ SS.at_ (Subtype.val x) + firstN (List.drop (Int.toNat (SS.at_ (Subtype.val x))) s) = SS.at_ (Subtype.val x') ∧ (0 : Int) = (0 : Int) ∧ (0 : Int) = (0 : Int) ∧ List.map Iv.tok (SS.ps (Subtype.val x)) ++ [{ r := firstR (List.drop (Int.toNat (SS.at_ (Subtype.val x))) s), q := decide (SS.op (Subtype.val x) ≥ (0 : Int)), p := SS.at_ (Subtype.val x) }] = List.map Iv.tok (SS.ps (Subtype.val x'))) ∧ List.length (SS.rest (Subtype.val x')) < List.length (SS.rest (Subtype.val x))))) (br (decide (SS.op (Subtype.val x) ≥ (0 : Int))) ([] = (scanT s).1 ∧ (3 : Int) = (scanT s).2.1 ∧ SS.op (Subtype.val x) = (scanT s).2.2) (br (decide ((↑(List.length (List.map Iv.tok (SS.ps (Subtype.val x)))) : Int) > (400 : Int))) ([] = (scanT s).1 ∧ (8 : Int) = (scanT s).2.1 ∧ (0 : Int) = (scanT s).2.2) (List.map Iv.tok (SS.ps (Subtype.val x)) = (scanT s).1 ∧ (0 : Int) = (scanT s).2.1 ∧ (0 : Int) = (scanT s).2.2))))) := by kernel_rfl
set_option maxHeartbeats 4000000 in
theorem of_rscan (h : ∀ (s : List UInt8), (s.length ≤ 1000000) → vcP [(54, sp_rrunes), (55, sp_first)] [] misc Tryz.f28 (.loop 7 (SR s) (fun x => ⟨[(0, .one (.str s)), (3, .one (.ptr 16 0)), (6, .one (.slc 17)), (7, .one (.int .i64 x.1.op)), (8, .one (.int .i64 x.1.at_))], [(16, some (.cells 28 [.int .i64 0, .int .i64 0])), (17, some (.row 71 (.toks (x.1.ps.map Iv.tok))))], 18⟩) (fun x => x.1.rest.length) (fun _ => .nil) .nil) [.one (.str s)] (.tup [(false, [.rd (.toks (scanT s).1)]), (true, [.int .i64 (scanT s).2.1, .int .i64 (scanT s).2.2])])) : FnP 28 sp_rscan := by
  refine fnP_ok (cs := [(54, sp_rrunes), (55, sp_first)]) (cas := []) (ms := misc) (.cons ok_rrunes (.cons ok_first .nil)) .nil misc_ok 28 Tryz.f28 (by kernel_rfl) (by kernel_rfl) (by kernel_rfl) (fun | [.one (.str s)] => .loop 7 (SR s) (fun x => ⟨[(0, .one (.str s)), (3, .one (.ptr 16 0)), (6, .one (.slc 17)), (7, .one (.int .i64 x.1.op)), (8, .one (.int .i64 x.1.at_))], [(16, some (.cells 28 [.int .i64 0, .int .i64 0])), (17, some (.row 71 (.toks (x.1.ps.map Iv.tok))))], 18⟩) (fun x => x.1.rest.length) (fun _ => .nil) .nil | _ => .nil) ?_
  intro pvs p r hs hp
  unfold sp_rscan at hs
  simp only at hs
  split at hs
  · rename_i s
    cases hs
    refine h s ?_
    · exact hp
  · cases hs
theorem enc39' : enc 39 = [39] := by decide
theorem scanStep_drop {l : List Int} (hne : l ≠ []) (a o : Int) : ∃ k : Nat, (scanStep l a o).2.1 = a + k ∧ (encs l).drop k = encs (scanStep l a o).1 ∧ k ≤ (encs l).length := by
  obtain ⟨r, m, rfl⟩ := List.exists_cons_of_ne_nil hne
  have hd : (encs (r :: m)).drop (enc r).length = encs m := by rw [encs_cons, List.drop_left]
  have hle : (enc r).length ≤ (encs (r :: m)).length := by rw [encs_cons, List.length_append]; omega
  by_cases h39 : r = 39
  · subst h39
    have h1 := enc39
    cases m with
    | nil => by_cases ho : o < 0 <;> exact ⟨1, by simp [scanStep, ho], by rw [enc39] at hd; simpa [scanStep, ho] using hd, by rw [← h1]; exact hle⟩
    | cons x m =>
      by_cases hx : x = 39
      · subst hx
        refine ⟨2, by simp [scanStep]; omega, ?_, ?_⟩
        · rw [encs_cons, encs_cons, enc39']; simp [scanStep]
        · rw [encs_cons, encs_cons, enc39']; simp
      · by_cases ho : o < 0 <;> exact ⟨1, by simp [scanStep, ho, hx], by rw [enc39] at hd; simpa [scanStep, ho, hx] using hd, by rw [← h1]; exact hle⟩
  · by_cases ho : o < 0 <;> exact ⟨(enc r).length, by simp [scanStep, ho, h39], by simpa [scanStep, ho, h39] using hd, hle⟩
def SR.next {s : List UInt8} (x : SR s) (h : x.1.rest ≠ []) : SR s := ⟨x.1.next h, fun hb => by
  obtain ⟨h1, h2⟩ := x.2 hb
  obtain ⟨k, g1, g2, g3⟩ := scanStep_drop h x.1.at_ x.1.op
  have h0 := x.1.at0
  have e : (x.1.next h).at_.toNat = x.1.at_.toNat + k := by
    show (scanStep x.1.rest x.1.at_ x.1.op).2.1.toNat = _
    rw [g1]; omega
  refine ⟨?_, ?_⟩
  · rw [e, ← List.drop_drop, h1, g2]; rfl
  · have := congrArg List.length h1
    rw [List.length_drop] at this
    omega⟩
theorem encs_ne {l : List Int} (h : encs l ≠ []) : l ≠ [] := by rintro rfl; exact h rfl
theorem enc_head {r : Int} (h : scalar r = true) : bt (enc r) 0 = 39 ↔ r = 39 := by
  rw [scalar_iff] at h
  by_cases h1 : r < 128
  · rw [enc1 h.1 h1]
    show (UInt8.ofNat r.toNat).toNat = 39 ↔ _
    have := ofNat_toNat h.1 (by omega : r < 256)
    omega
  · have hx : bt (enc r) 0 = 39 → False := by
      intro hb
      by_cases h2 : r < 2048
      · rw [enc2 (by omega) h2] at hb
        have := ofNat_toNat (n := 192 + r / 64) (by omega) (by omega)
        have hb : (UInt8.ofNat (192 + r / 64).toNat).toNat = 39 := hb
        omega
      · by_cases h3 : r ≤ 65535
        · rw [enc3 (by omega)] at hb
          have := ofNat_toNat (n := 224 + r / 4096) (by omega) (by omega)
          have hb : (UInt8.ofNat (224 + r / 4096).toNat).toNat = 39 := hb
          omega
        · rw [enc4 (by omega) (by omega)] at hb
          have := ofNat_toNat (n := 240 + r / 262144) (by omega) (by omega)
          have hb : (UInt8.ofNat (240 + r / 262144).toNat).toNat = 39 := hb
          omega
    constructor
    · intro hb; exact (hx hb).elim
    · intro hr; omega
theorem getD_drop' (s : List UInt8) (p : Nat) {l : List UInt8} (h : s.drop p = l) (i : Nat) : s.getD (p + i) 0 = l.getD i 0 := by rw [← h, getD_drop]
set_option maxHeartbeats 2000000 in
theorem ok_rscan : FnP 28 sp_rscan := of_rscan (by
  intro s hs
  rw [vc_rscan]
  refine ⟨by omega, br_of (fun h => ?_) fun h => ?_⟩
  · have h : badAt s ≥ 0 := by simpa using h
    unfold scanT
    rw [if_pos h]; exact ⟨rfl, rfl, rfl⟩
  have hb : badAt s < 0 := by simpa using h
  have hdl := decomp_len s
  have hz : s = encs (decomp s).1 := by
    have h1 := (decomp_ok s).1
    rw [bad_neg.1 hb, List.append_nil] at h1
    exact h1
  refine ⟨⟨⟨.zero s, fun _ => ⟨hz, Nat.zero_le _⟩⟩, rfl, rfl, rfl, rfl, rfl, rfl⟩, fun x => ?_⟩
  obtain ⟨d1, d2⟩ := x.2 hb
  have a0 := x.1.at0
  have a1 := x.1.big
  have a2 := x.1.few
  have hlm : (x.1.ps.map Iv.tok).length = x.1.ps.length := List.length_map _
  by_cases hlt : x.1.at_ < s.length
  · have hne : x.1.rest ≠ [] := by
      refine encs_ne ?_
      intro h0
      have := congrArg List.length d1
      rw [h0, List.length_drop, List.length_nil] at this
      omega
    have hsc := x.1.sc
    have hnx : (x.next hne).1.rest = (scanStep x.1.rest x.1.at_ x.1.op).1 ∧ (x.next hne).1.at_ = (scanStep x.1.rest x.1.at_ x.1.op).2.1 ∧ (x.next hne).1.op = (scanStep x.1.rest x.1.at_ x.1.op).2.2.1 ∧ (x.next hne).1.ps = x.1.ps ++ (scanStep x.1.rest x.1.at_ x.1.op).2.2.2 := ⟨rfl, rfl, rfl, rfl⟩
    obtain ⟨n1, n2, n3, n4⟩ := hnx
    have n5 : (x.next hne).1.rest.length < x.1.rest.length := by rw [n1]; exact (scanStep_facts hsc hne _ _).2.1
    revert n1 n2 n3 n4 n5
    generalize x.next hne = x'
    obtain ⟨r, m, hr⟩ := List.exists_cons_of_ne_nil hne
    rw [hr] at hsc d1 a1 a2
    rw [hr]
    have hrs : scalar r = true := hsc r (by simp)
    have he := enc_len r
    rw [encs_cons] at d1
    have e1 : firstR (s.drop x.1.at_.toNat) = r := by unfold firstR; rw [d1, step_enc hrs]
    have e2 : firstN (s.drop x.1.at_.toNat) = (enc r).length := by unfold firstN; rw [d1, step_enc hrs]
    have dl := congrArg List.length d1
    rw [List.length_drop, List.length_append] at dl
    rw [e1, e2, decide_eq_true hlt]
    intro n1 n2 n3 n4 n5
    have hll : (r :: m).length = m.length + 1 := rfl
    refine ⟨⟨by omega, by omega⟩, ?_⟩
    by_cases h39 : r = 39
    · subst h39
      have f1 : ((39 : Int) == 39) = true := rfl
      have f2 := enc39
      rw [enc39'] at d1
      have hbb : bAt s (x.1.at_ + 1) = bt (encs m) 0 := by
        unfold bAt bt
        rw [show (x.1.at_ + 1).toNat = x.1.at_.toNat + 1 by omega, getD_drop' s _ d1]; rfl
      cases m with
      | nil =>
        have g1 : decide (x.1.at_ + 1 < s.length) = false := by
          rw [encs_nil, f2] at dl
          simp at dl ⊢; omega
        by_cases ho : x.1.op < 0
        · have g2 : decide (x.1.op ≥ 0) = false := by simpa using ho
          simp only [f1, f2, g1, g2, br]
          simp [scanStep, ho] at n1 n2 n3 n4
          exact ⟨by simp only [inR]; omega, by simp only [inR]; omega, x', ⟨by trivial, n3.symm, n2.symm, by trivial, by trivial, by rw [n4]⟩, n5⟩
        · have g2 : decide (x.1.op ≥ 0) = true := by simpa using ho
          simp only [f1, f2, g1, g2, br]
          simp [scanStep, ho] at n1 n2 n3 n4
          exact ⟨by simp only [inR]; omega, by simp only [inR]; omega, x', ⟨by trivial, n3.symm, n2.symm, by trivial, by trivial, by rw [n4]⟩, n5⟩
      | cons y m =>
        have hys : scalar y = true := hsc y (by simp)
        have hy1 := enc_len y
        have g1 : decide (x.1.at_ + 1 < s.length) = true := by
          rw [encs_cons, f2, List.length_append] at dl
          simp; omega
        have hb0 : bt (encs (y :: m)) 0 = bt (enc y) 0 := by
          rw [encs_cons]; unfold bt
          rw [List.getD_eq_getElem?_getD, List.getElem?_append_left (by omega), ← List.getD_eq_getElem?_getD]
        rw [hb0] at hbb
        have hin : 0 ≤ x.1.at_ + 1 ∧ x.1.at_ + 1 < s.length := ⟨by omega, of_decide_eq_true g1⟩
        by_cases hy : y = 39
        · subst hy
          have g3 : (bAt s (x.1.at_ + 1) == 39) = true := by rw [hbb]; rfl
          simp only [f1, f2, g1, g3, br]
          simp [scanStep] at n1 n2 n3 n4
          exact ⟨by simp only [inR]; omega, by simp only [inR]; omega, hin, by omega, by simp only [inR]; omega, x', ⟨by trivial, n3.symm, by omega, by trivial, by trivial, by rw [n4, List.map_append]; rfl⟩, n5⟩
        · have g3 : (bAt s (x.1.at_ + 1) == 39) = false := by
            rw [hbb]
            have := fun h => hy ((enc_head hys).1 h)
            simpa using fun h => this (by omega)
          by_cases ho : x.1.op < 0
          · have g2 : decide (x.1.op ≥ 0) = false := by simpa using ho
            simp only [f1, f2, g1, g2, g3, br]
            simp [scanStep, ho, hy] at n1 n2 n3 n4
            exact ⟨by simp only [inR]; omega, by simp only [inR]; omega, hin, by simp only [inR]; omega, x', ⟨by trivial, n3.symm, n2.symm, by trivial, by trivial, by rw [n4]⟩, n5⟩
          · have g2 : decide (x.1.op ≥ 0) = true := by simpa using ho
            simp only [f1, f2, g1, g2, g3, br]
            simp [scanStep, ho, hy] at n1 n2 n3 n4
            exact ⟨by simp only [inR]; omega, by simp only [inR]; omega, hin, by simp only [inR]; omega, x', ⟨by trivial, n3.symm, n2.symm, by trivial, by trivial, by rw [n4]⟩, n5⟩
    · have f1 : (r == 39) = false := by simpa using h39
      simp only [f1, br]
      by_cases ho : x.1.op < 0
      · have g2 : decide (x.1.op ≥ 0) = false := by simpa using ho
        simp [scanStep, ho, h39] at n1 n2 n3 n4
        exact ⟨by omega, by simp only [inR]; omega, x', ⟨by trivial, n3.symm, n2.symm, by trivial, by trivial, by rw [n4, List.map_append, g2]; rfl⟩, n5⟩
      · have g2 : decide (x.1.op ≥ 0) = true := by simpa using ho
        simp [scanStep, ho, h39] at n1 n2 n3 n4
        exact ⟨by omega, by simp only [inR]; omega, x', ⟨by trivial, n3.symm, n2.symm, by trivial, by trivial, by rw [n4, List.map_append, g2]; rfl⟩, n5⟩
  · rw [decide_eq_false hlt]
    have hre : x.1.rest = [] := by
      have := congrArg List.length d1
      rw [List.length_drop] at this
      have h1 := (encs_len x.1.rest).1
      exact List.eq_nil_of_length_eq_zero (by omega)
    obtain ⟨q1, q2⟩ := x.1.done hre
    rw [hlm, q1, q2]
    have h : ¬ 0 ≤ badAt s := by omega
    unfold scanT
    rw [if_neg h]
    refine br_of (fun h0 => by cases h0) fun _ => br_of (fun h2 => ?_) fun h2 => br_of (fun h3 => ?_) fun h3 => ?_
    · have h2 : 0 ≤ (scanF s).1 := by simpa using h2
      rw [if_pos h2]; exact ⟨rfl, rfl, rfl⟩
    · have h2 : ¬ 0 ≤ (scanF s).1 := by simpa using h2
      have h3 : 400 < (scanF s).2.length := by have := of_decide_eq_true h3; omega
      rw [if_neg h2, if_pos h3]; exact ⟨rfl, rfl, rfl⟩
    · have h2 : ¬ 0 ≤ (scanF s).1 := by simpa using h2
      have h3 : ¬ 400 < (scanF s).2.length := by have := of_decide_eq_false h3; omega
      rw [if_neg h2, if_neg h3]; exact ⟨rfl, rfl, rfl⟩)
end Go.Proofs.YtglfkihckkjniaaGreatDoor.Vx
