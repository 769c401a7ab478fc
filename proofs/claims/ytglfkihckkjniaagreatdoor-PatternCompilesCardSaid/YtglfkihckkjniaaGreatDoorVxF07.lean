/-
VX, functions 7: texts. No statement of the seat is proved here.
-/
import Derived.Test.YtglfkihckkjniaaGreatDoorVxF06
set_option maxRecDepth 100000
set_option linter.unusedVariables false
set_option linter.unusedSimpArgs false
namespace Go.Proofs.YtglfkihckkjniaaGreatDoor.Vx
open Go Go.RowKit

/-! ### the library's contracts, as these -/
def sp_scut : FSpec := ⟨[], fun | [.one (.str s), .one (.str p)] => some ([s.length ≤ 1000000000], .tup [(false, [.str (Lib.cut s p).1]), (false, [.str (Lib.cut s p).2.1]), (false, [.bool (Lib.cut s p).2.2])]) | _ => none⟩
theorem bsize (s : List UInt8) : (⟨s.toArray⟩ : ByteArray).size = s.length := by simp [ByteArray.size]
theorem ok_scut : FnP 92 sp_scut := by
  refine ⟨body_of Tryz.f92 (by kernel_rfl) (by kernel_rfl) (by kernel_rfl), ?_⟩
  intro pvs p r hs hp w B args hg ha
  unfold sp_scut at hs
  simp only at hs
  split at hs
  · rename_i s q
    cases hs
    have hp : s.length ≤ 1000000000 := hp
    obtain ⟨v, u, rfl, hv, hu⟩ := args2 ha
    have hv : v = .string ⟨s.toArray⟩ := hv
    have hu : u = .string ⟨q.toArray⟩ := hu
    subst hv; subst hu
    obtain ⟨m, hm⟩ := glob_max hg
    refine (Tryz.strings_Cut ⟨s.toArray⟩ ⟨q.toArray⟩ m w (by rw [bsize]; omega) hm).mono ?_
    rintro e w' ⟨rfl, n, rfl⟩
    exact ⟨_, rfl, ⟨rfl, rfl, rfl, Nat.le_refl _, fun _ _ _ => rfl⟩, ⟨[_, _, _], rfl, .cons rfl (.cons rfl (.cons rfl .nil))⟩⟩
  · cases hs
def sp_scutp : FSpec := ⟨[], fun | [.one (.str s), .one (.str p)] => some ([], .tup [(false, [.str (Lib.trimPrefix s p)]), (false, [.bool (Lib.hasPrefix s p)])]) | _ => none⟩
theorem ok_scutp : FnP 115 sp_scutp := by
  refine ⟨body_of Tryz.f115 (by kernel_rfl) (by kernel_rfl) (by kernel_rfl), ?_⟩
  intro pvs p r hs hp w B args hg ha
  unfold sp_scutp at hs
  simp only at hs
  split at hs
  · rename_i s q
    cases hs
    obtain ⟨v, u, rfl, hv, hu⟩ := args2 ha
    have hv : v = .string ⟨s.toArray⟩ := hv
    have hu : u = .string ⟨q.toArray⟩ := hu
    subst hv; subst hu
    refine (Tryz.strings_CutPrefix ⟨s.toArray⟩ ⟨q.toArray⟩ w).mono ?_
    rintro e w' ⟨rfl, rfl⟩
    exact ⟨_, rfl, Fr.refl _ _, ⟨[_, _], rfl, .cons rfl (.cons rfl .nil)⟩⟩
  · cases hs
def sp_scount : FSpec := ⟨[], fun | [.one (.str s), .one (.str [c])] => some ([], .one (.int .i64 (Lib.countByte s c))) | _ => none⟩
theorem ok_scount : FnP 122 sp_scount := by
  refine ⟨body_of Tryz.f122 (by kernel_rfl) (by kernel_rfl) (by kernel_rfl), ?_⟩
  intro pvs p r hs hp w B args hg ha
  unfold sp_scount at hs
  simp only at hs
  split at hs
  · rename_i s q
    cases hs
    obtain ⟨v, u, rfl, hv, hu⟩ := args2 ha
    have hv : v = .string ⟨s.toArray⟩ := hv
    have hu : u = .string ⟨#[q]⟩ := hu
    subst hv; subst hu
    refine (Tryz.strings_Count_one ⟨s.toArray⟩ q w).mono ?_
    rintro e w' ⟨rfl, rfl⟩
    exact ⟨_, rfl, Fr.refl _ _, rfl⟩
  · cases hs
def sp_scont : FSpec := ⟨[], fun | [.one (.str s), .one (.str [c])] => some ([], .one (.bool (decide (0 ≤ Lib.indexByte s c)))) | _ => none⟩
theorem ok_scont : FnP 124 sp_scont := by
  refine ⟨body_of Tryz.f124 (by kernel_rfl) (by kernel_rfl) (by kernel_rfl), ?_⟩
  intro pvs p r hs hp w B args hg ha
  unfold sp_scont at hs
  simp only at hs
  split at hs
  · rename_i s q
    cases hs
    obtain ⟨v, u, rfl, hv, hu⟩ := args2 ha
    have hv : v = .string ⟨s.toArray⟩ := hv
    have hu : u = .string ⟨#[q]⟩ := hu
    subst hv; subst hu
    refine (Tryz.strings_Contains_one ⟨s.toArray⟩ q w).mono ?_
    rintro e w' ⟨rfl, rfl⟩
    exact ⟨_, rfl, Fr.refl _ _, rfl⟩
  · cases hs
theorem indexByte_has (s : List UInt8) (c : UInt8) : (0 ≤ Lib.indexByte s c) ↔ c ∈ s := by
  induction s with
  | nil => simp [Lib.indexByte]
  | cons b l ih =>
    have hge := Lib.indexByte_ge l c
    unfold Lib.indexByte
    by_cases h : b = c
    · subst h; simp
    · rw [if_neg (by simpa using h)]
      by_cases h1 : Lib.indexByte l c = -1
      · rw [if_pos (by simpa using h1)]
        rw [h1] at ih
        have : c ∉ l := fun hc => by have := ih.2 hc; omega
        simp [this]
        exact fun h2 => h h2.symm
      · rw [if_neg (by simpa using h1)]
        have : c ∈ l := ih.1 (by omega)
        simp [this]
        omega
def sp_srune : FSpec := ⟨[], fun | [.one (.str s), .one (.int .i32 r)] => some ([0 ≤ r ∧ r < 128], .one (.bool (hasR s r))) | _ => none⟩
theorem ok_srune : FnP 120 sp_srune := by
  refine ⟨body_of Tryz.f120 (by kernel_rfl) (by kernel_rfl) (by kernel_rfl), ?_⟩
  intro pvs p r hs hp w B args hg ha
  unfold sp_srune at hs
  simp only at hs
  split at hs
  · rename_i s q
    cases hs
    have hp : 0 ≤ q ∧ q < 128 := hp
    obtain ⟨v, u, rfl, hv, hu⟩ := args2 ha
    have hv : v = .string ⟨s.toArray⟩ := hv
    have hu : u = .int .i32 q := hu
    subst hv; subst hu
    refine (Tryz.strings_ContainsRune_ascii ⟨s.toArray⟩ q w hp.1 hp.2).mono ?_
    rintro e w' ⟨rfl, rfl⟩
    refine ⟨_, rfl, Fr.refl _ _, ?_⟩
    show Value.bool _ = Value.bool _
    congr 1
    rw [Bool.eq_iff_iff, decide_eq_true_iff, indexByte_has]
    unfold hasR
    rw [List.any_eq_true]
    have h1 := ofNat_toNat hp.1 (by omega : q < 256)
    constructor
    · intro h; exact ⟨_, h, by simpa using h1⟩
    · rintro ⟨c, hc, h2⟩
      have h2 : (c.toNat : Int) = q := by simpa using h2
      have : c = q.toNat.toUInt8 := by
        apply UInt8.toNat_inj.1
        have h1 : ((q.toNat.toUInt8).toNat : Int) = q := h1
        omega
      rw [← this]; exact hc
  · cases hs
def sp_strim : FSpec := ⟨[], fun | [.one (.str s), .one (.str [c])] => some ([c.toNat < 128], .one (.str (Lib.trimLeftB s c))) | _ => none⟩
theorem ok_strim : FnP 127 sp_strim := by
  refine ⟨body_of Tryz.f127 (by kernel_rfl) (by kernel_rfl) (by kernel_rfl), ?_⟩
  intro pvs p r hs hp w B args hg ha
  unfold sp_strim at hs
  simp only at hs
  split at hs
  · rename_i s q
    cases hs
    have hp : q.toNat < 128 := hp
    obtain ⟨v, u, rfl, hv, hu⟩ := args2 ha
    have hv : v = .string ⟨s.toArray⟩ := hv
    have hu : u = .string ⟨#[q]⟩ := hu
    subst hv; subst hu
    refine (Tryz.strings_TrimLeft_one ⟨s.toArray⟩ q hp w).mono ?_
    rintro e w' ⟨rfl, rfl⟩
    exact ⟨_, rfl, Fr.refl _ _, rfl⟩
  · cases hs
/-! ### the sorts of a number's characters -/
def isDig (r : Int) : Bool := decide (r ≥ 48) && decide (r ≤ 57)
def isOdd (r : Int) : Bool := !isDig r && !hasR [35, 64, 44, 46] r
def sp_digit : FSpec := ⟨[], fun | [.one (.int .i32 r)] => some ([], .one (.bool (isDig r))) | _ => none⟩
theorem vc_digit (r : Int) : vcP [] [] misc Tryz.f119 (.nil) [.one (.int .i32 r)] (.one (.bool (isDig r))) = (br (decide (r ≥ (48 : Int))) (decide (r ≤ (57 : Int)) = isDig r) (false = isDig r)) := by kernel_rfl
set_option maxHeartbeats 4000000 in
theorem of_digit (h : ∀ (r : Int), vcP [] [] misc Tryz.f119 (.nil) [.one (.int .i32 r)] (.one (.bool (isDig r)))) : FnP 119 sp_digit := by
  refine fnP_ok (cs := []) (cas := []) (ms := misc) .nil .nil misc_ok 119 Tryz.f119 (by kernel_rfl) (by kernel_rfl) (by kernel_rfl) (fun _ => .nil) ?_
  intro pvs p r hs hp
  unfold sp_digit at hs
  simp only at hs
  split at hs
  · rename_i r
    cases hs
    refine h r
  · cases hs
theorem ok_digit : FnP 119 sp_digit := of_digit (by
  intro r
  rw [vc_digit]
  unfold isDig
  exact br_of (fun h => by rw [h]; rfl) fun h => by rw [h]; rfl)
def sp_one1 : FSpec := ⟨[], fun | [.one (.int .i32 r), .one (.ref 21 (.int .i32 c))] => some ([], .one (.bool (r == c))) | _ => none⟩
theorem vc_one1 (r c : Int) : vcP [] [] misc Tryz.f140 (.nil) [.one (.int .i32 r), .one (.ref 21 (.int .i32 c))] (.one (.bool (r == c))) = ((r == c) = (r == c)) := by kernel_rfl
set_option maxHeartbeats 4000000 in
theorem of_one1 (h : ∀ (r c : Int), vcP [] [] misc Tryz.f140 (.nil) [.one (.int .i32 r), .one (.ref 21 (.int .i32 c))] (.one (.bool (r == c)))) : FnP 140 sp_one1 := by
  refine fnP_ok (cs := []) (cas := []) (ms := misc) .nil .nil misc_ok 140 Tryz.f140 (by kernel_rfl) (by kernel_rfl) (by kernel_rfl) (fun _ => .nil) ?_
  intro pvs p r hs hp
  unfold sp_one1 at hs
  simp only at hs
  split at hs
  · rename_i r c
    cases hs
    refine h r c
  · cases hs
theorem ok_one1 : FnP 140 sp_one1 := of_one1 (by
  intro r c
  rw [vc_one1])
def sp_parts1 : FSpec := ⟨[], fun | [.one (.int .i32 r)] => some ([0 ≤ r ∧ r < 128], .one (.bool (isOdd r))) | _ => none⟩
theorem vc_parts1 (r : Int) : vcP [(119, sp_digit), (120, sp_srune)] [] misc Tryz.f118 (.nil) [.one (.int .i32 r)] (.one (.bool (isOdd r))) = (br (!isDig r) (((0 : Int) ≤ r ∧ r < (128 : Int)) ∧ (!hasR (([(35 : UInt8), (64 : UInt8), (44 : UInt8), (46 : UInt8)] : List UInt8)) r) = isOdd r) (false = isOdd r)) := by kernel_rfl
set_option maxHeartbeats 4000000 in
theorem of_parts1 (h : ∀ (r : Int), (0 ≤ r ∧ r < 128) → vcP [(119, sp_digit), (120, sp_srune)] [] misc Tryz.f118 (.nil) [.one (.int .i32 r)] (.one (.bool (isOdd r)))) : FnP 118 sp_parts1 := by
  refine fnP_ok (cs := [(119, sp_digit), (120, sp_srune)]) (cas := []) (ms := misc) (.cons ok_digit (.cons ok_srune .nil)) .nil misc_ok 118 Tryz.f118 (by kernel_rfl) (by kernel_rfl) (by kernel_rfl) (fun _ => .nil) ?_
  intro pvs p r hs hp
  unfold sp_parts1 at hs
  simp only at hs
  split at hs
  · rename_i r
    cases hs
    refine h r ?_
    · exact hp
  · cases hs
theorem ok_parts1 : FnP 118 sp_parts1 := of_parts1 (by
  intro r h
  rw [vc_parts1]
  unfold isOdd
  exact br_of (fun h1 => ⟨h, by rw [h1]; rfl⟩) fun h1 => by rw [h1]; rfl)
def sp_one : FSpec := ⟨[], fun | [.one (.int .i32 c)] => some ([], .one (.fnv 140 [(21, .int .i32 c)])) | _ => none⟩
theorem vc_one (c : Int) : vcP [] [] misc Tryz.f117 (.nil) [.one (.int .i32 c)] (.one (.fnv 140 [(21, .int .i32 c)])) = ([((21 : Nat), Pb.int IntKind.i32 c)] = [((21 : TypeId), Pb.int IntKind.i32 c)]) := by kernel_rfl
set_option maxHeartbeats 4000000 in
theorem of_one (h : ∀ (c : Int), vcP [] [] misc Tryz.f117 (.nil) [.one (.int .i32 c)] (.one (.fnv 140 [(21, .int .i32 c)]))) : FnP 117 sp_one := by
  refine fnP_ok (cs := []) (cas := []) (ms := misc) .nil .nil misc_ok 117 Tryz.f117 (by kernel_rfl) (by kernel_rfl) (by kernel_rfl) (fun _ => .nil) ?_
  intro pvs p r hs hp
  unfold sp_one at hs
  simp only at hs
  split at hs
  · rename_i c
    cases hs
    refine h c
  · cases hs
theorem ok_one : FnP 117 sp_one := of_one (by
  intro c
  rw [vc_one])
def bP (P : Int → Bool) (t : Bool) (c : UInt8) : Bool := P (c.toNat : Int) == t
def sp_sidx1 : FSpec := ⟨[], fun | [.one (.str s), .one (.fnv 140 [(21, .int .i32 c)]), .one (.bool t)] => some ([Asc s, s.length ≤ 1000000000], .one (.int .i64 (idxZ (bP (· == c) t) s))) | _ => none⟩
theorem vc_sidx1 (s : List UInt8) (c : Int) (t : Bool) : vcP [(140, sp_one1)] [] misc Tryz.f161 (.loop 2 (None (bP (· == c) t) s) (fun i => ⟨[(1, .one (.fn 140 [(0, 0)])), (2, .one (.bool t)), (10, .one (.slc 17))], [(0, some (.ro 21 [.int .i32 c])), (17, some (.iter s i.1))], 18⟩) (fun i => s.length - i.1) (fun _ => .nil) .nil) [.one (.str s), .one (.fnv 140 [(21, .int .i32 c)]), .one (.bool t)] (.one (.int .i64 (idxZ (bP (· == c) t) s))) = ((∃ (x : None (bP (fun (x : Int) => x == c) t) s), t = t ∧ c = c ∧ (0 : Nat) = Subtype.val x ∧ s = s) ∧ ∀ (x : None (bP (fun (x : Int) => x == c) t) s), br (decide (Subtype.val x < List.length s)) (br ((dec s (Subtype.val x) == c) == t) ((↑(Subtype.val x) : Int) = idxZ (bP (fun (x : Int) => x == c) t) s) (∃ (x' : None (bP (fun (x : Int) => x == c) t) s), (t = t ∧ c = c ∧ Subtype.val x + wid s (Subtype.val x) = Subtype.val x' ∧ s = s) ∧ List.length s - Subtype.val x' < List.length s - Subtype.val x)) ((-1 : Int) = idxZ (bP (fun (x : Int) => x == c) t) s)) := by kernel_rfl
set_option maxHeartbeats 4000000 in
theorem of_sidx1 (h : ∀ (s : List UInt8) (c : Int) (t : Bool), (Asc s) → (s.length ≤ 1000000000) → vcP [(140, sp_one1)] [] misc Tryz.f161 (.loop 2 (None (bP (· == c) t) s) (fun i => ⟨[(1, .one (.fn 140 [(0, 0)])), (2, .one (.bool t)), (10, .one (.slc 17))], [(0, some (.ro 21 [.int .i32 c])), (17, some (.iter s i.1))], 18⟩) (fun i => s.length - i.1) (fun _ => .nil) .nil) [.one (.str s), .one (.fnv 140 [(21, .int .i32 c)]), .one (.bool t)] (.one (.int .i64 (idxZ (bP (· == c) t) s)))) : FnP 161 sp_sidx1 := by
  refine fnP_ok (cs := [(140, sp_one1)]) (cas := []) (ms := misc) (.cons ok_one1 .nil) .nil misc_ok 161 Tryz.f161 (by kernel_rfl) (by kernel_rfl) (by kernel_rfl) (fun | [.one (.str s), .one (.fnv 140 [(21, .int .i32 c)]), .one (.bool t)] => .loop 2 (None (bP (· == c) t) s) (fun i => ⟨[(1, .one (.fn 140 [(0, 0)])), (2, .one (.bool t)), (10, .one (.slc 17))], [(0, some (.ro 21 [.int .i32 c])), (17, some (.iter s i.1))], 18⟩) (fun i => s.length - i.1) (fun _ => .nil) .nil | _ => .nil) ?_
  intro pvs p r hs hp
  unfold sp_sidx1 at hs
  simp only at hs
  split at hs
  · rename_i s c t
    cases hs
    refine h s c t ?_ ?_
    · exact hp.1
    · exact hp.2
  · cases hs
def sp_sidxD : FSpec := ⟨[], fun | [.one (.str s), .one (.fnv 119 []), .one (.bool t)] => some ([Asc s, s.length ≤ 1000000000], .one (.int .i64 (idxZ (bP isDig t) s))) | _ => none⟩
theorem vc_sidxD (s : List UInt8) (t : Bool) : vcP [(119, sp_digit)] [] misc Tryz.f161 (.loop 2 (None (bP isDig t) s) (fun i => ⟨[(1, .one (.fn 119 [])), (2, .one (.bool t)), (10, .one (.slc 17))], [(17, some (.iter s i.1))], 18⟩) (fun i => s.length - i.1) (fun _ => .nil) .nil) [.one (.str s), .one (.fnv 119 []), .one (.bool t)] (.one (.int .i64 (idxZ (bP isDig t) s))) = ((∃ (x : None (bP isDig t) s), t = t ∧ (0 : Nat) = Subtype.val x ∧ s = s) ∧ ∀ (x : None (bP isDig t) s), br (decide (Subtype.val x < List.length s)) (br (isDig (dec s (Subtype.val x)) == t) ((↑(Subtype.val x) : Int) = idxZ (bP isDig t) s) (∃ (x' : None (bP isDig t) s), (t = t ∧ Subtype.val x + wid s (Subtype.val x) = Subtype.val x' ∧ s = s) ∧ List.length s - Subtype.val x' < List.length s - Subtype.val x)) ((-1 : Int) = idxZ (bP isDig t) s)) := by kernel_rfl
set_option maxHeartbeats 4000000 in
theorem of_sidxD (h : ∀ (s : List UInt8) (t : Bool), (Asc s) → (s.length ≤ 1000000000) → vcP [(119, sp_digit)] [] misc Tryz.f161 (.loop 2 (None (bP isDig t) s) (fun i => ⟨[(1, .one (.fn 119 [])), (2, .one (.bool t)), (10, .one (.slc 17))], [(17, some (.iter s i.1))], 18⟩) (fun i => s.length - i.1) (fun _ => .nil) .nil) [.one (.str s), .one (.fnv 119 []), .one (.bool t)] (.one (.int .i64 (idxZ (bP isDig t) s)))) : FnP 161 sp_sidxD := by
  refine fnP_ok (cs := [(119, sp_digit)]) (cas := []) (ms := misc) (.cons ok_digit .nil) .nil misc_ok 161 Tryz.f161 (by kernel_rfl) (by kernel_rfl) (by kernel_rfl) (fun | [.one (.str s), .one (.fnv 119 []), .one (.bool t)] => .loop 2 (None (bP isDig t) s) (fun i => ⟨[(1, .one (.fn 119 [])), (2, .one (.bool t)), (10, .one (.slc 17))], [(17, some (.iter s i.1))], 18⟩) (fun i => s.length - i.1) (fun _ => .nil) .nil | _ => .nil) ?_
  intro pvs p r hs hp
  unfold sp_sidxD at hs
  simp only at hs
  split at hs
  · rename_i s t
    cases hs
    refine h s t ?_ ?_
    · exact hp.1
    · exact hp.2
  · cases hs
def sp_sidxO : FSpec := ⟨[], fun | [.one (.str s), .one (.fnv 118 []), .one (.bool t)] => some ([Asc s, s.length ≤ 1000000000], .one (.int .i64 (idxZ (bP isOdd t) s))) | _ => none⟩
theorem vc_sidxO (s : List UInt8) (t : Bool) : vcP [(118, sp_parts1)] [] misc Tryz.f161 (.loop 2 (None (bP isOdd t) s) (fun i => ⟨[(1, .one (.fn 118 [])), (2, .one (.bool t)), (10, .one (.slc 17))], [(17, some (.iter s i.1))], 18⟩) (fun i => s.length - i.1) (fun _ => .nil) .nil) [.one (.str s), .one (.fnv 118 []), .one (.bool t)] (.one (.int .i64 (idxZ (bP isOdd t) s))) = ((∃ (x : None (bP isOdd t) s), t = t ∧ (0 : Nat) = Subtype.val x ∧ s = s) ∧ ∀ (x : None (bP isOdd t) s), br (decide (Subtype.val x < List.length s)) (((0 : Int) ≤ dec s (Subtype.val x) ∧ dec s (Subtype.val x) < (128 : Int)) ∧ br (isOdd (dec s (Subtype.val x)) == t) ((↑(Subtype.val x) : Int) = idxZ (bP isOdd t) s) (∃ (x' : None (bP isOdd t) s), (t = t ∧ Subtype.val x + wid s (Subtype.val x) = Subtype.val x' ∧ s = s) ∧ List.length s - Subtype.val x' < List.length s - Subtype.val x)) ((-1 : Int) = idxZ (bP isOdd t) s)) := by kernel_rfl
set_option maxHeartbeats 4000000 in
theorem of_sidxO (h : ∀ (s : List UInt8) (t : Bool), (Asc s) → (s.length ≤ 1000000000) → vcP [(118, sp_parts1)] [] misc Tryz.f161 (.loop 2 (None (bP isOdd t) s) (fun i => ⟨[(1, .one (.fn 118 [])), (2, .one (.bool t)), (10, .one (.slc 17))], [(17, some (.iter s i.1))], 18⟩) (fun i => s.length - i.1) (fun _ => .nil) .nil) [.one (.str s), .one (.fnv 118 []), .one (.bool t)] (.one (.int .i64 (idxZ (bP isOdd t) s)))) : FnP 161 sp_sidxO := by
  refine fnP_ok (cs := [(118, sp_parts1)]) (cas := []) (ms := misc) (.cons ok_parts1 .nil) .nil misc_ok 161 Tryz.f161 (by kernel_rfl) (by kernel_rfl) (by kernel_rfl) (fun | [.one (.str s), .one (.fnv 118 []), .one (.bool t)] => .loop 2 (None (bP isOdd t) s) (fun i => ⟨[(1, .one (.fn 118 [])), (2, .one (.bool t)), (10, .one (.slc 17))], [(17, some (.iter s i.1))], 18⟩) (fun i => s.length - i.1) (fun _ => .nil) .nil | _ => .nil) ?_
  intro pvs p r hs hp
  unfold sp_sidxO at hs
  simp only at hs
  split at hs
  · rename_i s t
    cases hs
    refine h s t ?_ ?_
    · exact hp.1
    · exact hp.2
  · cases hs
theorem None.step {P : Int → Bool} {t : Bool} {s : List UInt8} (hs : Asc s) (x : None (bP P t) s) (h : x.1 < s.length) :
    dec s x.1 = ((s.getD x.1 0).toNat : Int) ∧ wid s x.1 = 1 ∧ (0 ≤ dec s x.1 ∧ dec s x.1 < 128) := by
  obtain ⟨q1, q2⟩ := dec_asc hs h
  have := hs _ (getD_mem' (d := 0) h)
  exact ⟨q1, q2, by omega, by omega⟩
theorem ok_sidx1 : FnP 161 sp_sidx1 := of_sidx1 (by
  intro s c t hs hn
  rw [vc_sidx1]
  refine ⟨⟨.zero _ s, rfl, rfl, rfl, rfl⟩, fun x => br_of (fun h => ?_) fun h => ?_⟩
  · have h : x.1 < s.length := of_decide_eq_true h
    obtain ⟨q1, q2, q3⟩ := x.step hs h
    rw [q1, q2]
    exact br_of (fun h1 => (x.hitZ (d := 0) h h1).symm) fun h1 => ⟨x.next 0 h h1, ⟨rfl, rfl, rfl, rfl⟩, by show s.length - (x.1 + 1) < _; omega⟩
  · exact (x.overZ (of_decide_eq_false h)).symm)
theorem ok_sidxD : FnP 161 sp_sidxD := of_sidxD (by
  intro s t hs hn
  rw [vc_sidxD]
  refine ⟨⟨.zero _ s, rfl, rfl, rfl⟩, fun x => br_of (fun h => ?_) fun h => ?_⟩
  · have h : x.1 < s.length := of_decide_eq_true h
    obtain ⟨q1, q2, q3⟩ := x.step hs h
    rw [q1, q2]
    exact br_of (fun h1 => (x.hitZ (d := 0) h h1).symm) fun h1 => ⟨x.next 0 h h1, ⟨rfl, rfl, rfl⟩, by show s.length - (x.1 + 1) < _; omega⟩
  · exact (x.overZ (of_decide_eq_false h)).symm)
theorem ok_sidxO : FnP 161 sp_sidxO := of_sidxO (by
  intro s t hs hn
  rw [vc_sidxO]
  refine ⟨⟨.zero _ s, rfl, rfl, rfl⟩, fun x => br_of (fun h => ?_) fun h => ?_⟩
  · have h : x.1 < s.length := of_decide_eq_true h
    obtain ⟨q1, q2, q3⟩ := x.step hs h
    refine ⟨q3, ?_⟩
    rw [q1, q2]
    exact br_of (fun h1 => (x.hitZ (d := 0) h h1).symm) fun h1 => ⟨x.next 0 h h1, ⟨rfl, rfl, rfl⟩, by show s.length - (x.1 + 1) < _; omega⟩
  · exact (x.overZ (of_decide_eq_false h)).symm)
/-- Without those ahead. -/
def dropP (P : Int → Bool) (s : List UInt8) : List UInt8 := s.dropWhile fun c => P (c.toNat : Int)
def sp_strim1 : FSpec := ⟨[], fun | [.one (.str s), .one (.fnv 140 [(21, .int .i32 c)])] => some ([Asc s, s.length ≤ 1000000000], .one (.str (dropP (· == c) s))) | _ => none⟩
theorem vc_strim1 (s : List UInt8) (c : Int) : vcP [(161, sp_sidx1)] [] misc Tryz.f139 (.nil) [.one (.str s), .one (.fnv 140 [(21, .int .i32 c)])] (.one (.str (dropP (· == c) s))) = ((∀ (c : UInt8), c ∈ s → UInt8.toNat c < (128 : Nat)) ∧ List.length s ≤ (1000000000 : Nat) ∧ br (idxZ (bP (fun (x : Int) => x == c) false) s == (-1 : Int)) (([] : List UInt8) = dropP (fun (x : Int) => x == c) s) (((0 : Int) ≤ idxZ (bP (fun (x : Int) => x == c) false) s ∧ idxZ (bP (fun (x : Int) => x == c) false) s ≤ (↑(List.length s) : Int)) ∧ List.drop (Int.toNat (idxZ (bP (fun (x : Int) => x == c) false) s)) s = dropP (fun (x : Int) => x == c) s)) := by kernel_rfl
set_option maxHeartbeats 4000000 in
theorem of_strim1 (h : ∀ (s : List UInt8) (c : Int), (Asc s) → (s.length ≤ 1000000000) → vcP [(161, sp_sidx1)] [] misc Tryz.f139 (.nil) [.one (.str s), .one (.fnv 140 [(21, .int .i32 c)])] (.one (.str (dropP (· == c) s)))) : FnP 139 sp_strim1 := by
  refine fnP_ok (cs := [(161, sp_sidx1)]) (cas := []) (ms := misc) (.cons ok_sidx1 .nil) .nil misc_ok 139 Tryz.f139 (by kernel_rfl) (by kernel_rfl) (by kernel_rfl) (fun _ => .nil) ?_
  intro pvs p r hs hp
  unfold sp_strim1 at hs
  simp only at hs
  split at hs
  · rename_i s c
    cases hs
    refine h s c ?_ ?_
    · exact hp.1
    · exact hp.2
  · cases hs
def sp_strimD : FSpec := ⟨[], fun | [.one (.str s), .one (.fnv 119 [])] => some ([Asc s, s.length ≤ 1000000000], .one (.str (dropP isDig s))) | _ => none⟩
theorem vc_strimD (s : List UInt8) : vcP [(161, sp_sidxD)] [] misc Tryz.f139 (.nil) [.one (.str s), .one (.fnv 119 [])] (.one (.str (dropP isDig s))) = ((∀ (c : UInt8), c ∈ s → UInt8.toNat c < (128 : Nat)) ∧ List.length s ≤ (1000000000 : Nat) ∧ br (idxZ (bP isDig false) s == (-1 : Int)) (([] : List UInt8) = dropP isDig s) (((0 : Int) ≤ idxZ (bP isDig false) s ∧ idxZ (bP isDig false) s ≤ (↑(List.length s) : Int)) ∧ List.drop (Int.toNat (idxZ (bP isDig false) s)) s = dropP isDig s)) := by kernel_rfl
set_option maxHeartbeats 4000000 in
theorem of_strimD (h : ∀ (s : List UInt8), (Asc s) → (s.length ≤ 1000000000) → vcP [(161, sp_sidxD)] [] misc Tryz.f139 (.nil) [.one (.str s), .one (.fnv 119 [])] (.one (.str (dropP isDig s)))) : FnP 139 sp_strimD := by
  refine fnP_ok (cs := [(161, sp_sidxD)]) (cas := []) (ms := misc) (.cons ok_sidxD .nil) .nil misc_ok 139 Tryz.f139 (by kernel_rfl) (by kernel_rfl) (by kernel_rfl) (fun _ => .nil) ?_
  intro pvs p r hs hp
  unfold sp_strimD at hs
  simp only at hs
  split at hs
  · rename_i s
    cases hs
    refine h s ?_ ?_
    · exact hp.1
    · exact hp.2
  · cases hs
def sp_sifD : FSpec := ⟨[], fun | [.one (.str s), .one (.fnv 119 [])] => some ([Asc s, s.length ≤ 1000000000], .one (.int .i64 (idxZ (bP isDig true) s))) | _ => none⟩
theorem vc_sifD (s : List UInt8) : vcP [(161, sp_sidxD)] [] misc Tryz.f142 (.nil) [.one (.str s), .one (.fnv 119 [])] (.one (.int .i64 (idxZ (bP isDig true) s))) = ((∀ (c : UInt8), c ∈ s → UInt8.toNat c < (128 : Nat)) ∧ List.length s ≤ (1000000000 : Nat) ∧ idxZ (bP isDig true) s = idxZ (bP isDig true) s) := by kernel_rfl
set_option maxHeartbeats 4000000 in
theorem of_sifD (h : ∀ (s : List UInt8), (Asc s) → (s.length ≤ 1000000000) → vcP [(161, sp_sidxD)] [] misc Tryz.f142 (.nil) [.one (.str s), .one (.fnv 119 [])] (.one (.int .i64 (idxZ (bP isDig true) s)))) : FnP 142 sp_sifD := by
  refine fnP_ok (cs := [(161, sp_sidxD)]) (cas := []) (ms := misc) (.cons ok_sidxD .nil) .nil misc_ok 142 Tryz.f142 (by kernel_rfl) (by kernel_rfl) (by kernel_rfl) (fun _ => .nil) ?_
  intro pvs p r hs hp
  unfold sp_sifD at hs
  simp only at hs
  split at hs
  · rename_i s
    cases hs
    refine h s ?_ ?_
    · exact hp.1
    · exact hp.2
  · cases hs
def sp_sifO : FSpec := ⟨[], fun | [.one (.str s), .one (.fnv 118 [])] => some ([Asc s, s.length ≤ 1000000000], .one (.int .i64 (idxZ (bP isOdd true) s))) | _ => none⟩
theorem vc_sifO (s : List UInt8) : vcP [(161, sp_sidxO)] [] misc Tryz.f142 (.nil) [.one (.str s), .one (.fnv 118 [])] (.one (.int .i64 (idxZ (bP isOdd true) s))) = ((∀ (c : UInt8), c ∈ s → UInt8.toNat c < (128 : Nat)) ∧ List.length s ≤ (1000000000 : Nat) ∧ idxZ (bP isOdd true) s = idxZ (bP isOdd true) s) := by kernel_rfl
set_option maxHeartbeats 4000000 in
theorem of_sifO (h : ∀ (s : List UInt8), (Asc s) → (s.length ≤ 1000000000) → vcP [(161, sp_sidxO)] [] misc Tryz.f142 (.nil) [.one (.str s), .one (.fnv 118 [])] (.one (.int .i64 (idxZ (bP isOdd true) s)))) : FnP 142 sp_sifO := by
  refine fnP_ok (cs := [(161, sp_sidxO)]) (cas := []) (ms := misc) (.cons ok_sidxO .nil) .nil misc_ok 142 Tryz.f142 (by kernel_rfl) (by kernel_rfl) (by kernel_rfl) (fun _ => .nil) ?_
  intro pvs p r hs hp
  unfold sp_sifO at hs
  simp only at hs
  split at hs
  · rename_i s
    cases hs
    refine h s ?_ ?_
    · exact hp.1
    · exact hp.2
  · cases hs
def anyP (P : Int → Bool) (s : List UInt8) : Bool := s.any fun c => P (c.toNat : Int)
theorem ok_sifD : FnP 142 sp_sifD := of_sifD (by
  intro s hs hn
  rw [vc_sifD]
  exact ⟨hs, hn, rfl⟩)
theorem ok_sifO : FnP 142 sp_sifO := of_sifO (by
  intro s hs hn
  rw [vc_sifO]
  exact ⟨hs, hn, rfl⟩)
def sp_scfD : FSpec := ⟨[], fun | [.one (.str s), .one (.fnv 119 [])] => some ([Asc s, s.length ≤ 1000000000], .one (.bool (anyP isDig s))) | _ => none⟩
theorem vc_scfD (s : List UInt8) : vcP [(142, sp_sifD)] [] misc Tryz.f121 (.nil) [.one (.str s), .one (.fnv 119 [])] (.one (.bool (anyP isDig s))) = ((∀ (c : UInt8), c ∈ s → UInt8.toNat c < (128 : Nat)) ∧ List.length s ≤ (1000000000 : Nat) ∧ decide (idxZ (bP isDig true) s ≥ (0 : Int)) = anyP isDig s) := by kernel_rfl
set_option maxHeartbeats 4000000 in
theorem of_scfD (h : ∀ (s : List UInt8), (Asc s) → (s.length ≤ 1000000000) → vcP [(142, sp_sifD)] [] misc Tryz.f121 (.nil) [.one (.str s), .one (.fnv 119 [])] (.one (.bool (anyP isDig s)))) : FnP 121 sp_scfD := by
  refine fnP_ok (cs := [(142, sp_sifD)]) (cas := []) (ms := misc) (.cons ok_sifD .nil) .nil misc_ok 121 Tryz.f121 (by kernel_rfl) (by kernel_rfl) (by kernel_rfl) (fun _ => .nil) ?_
  intro pvs p r hs hp
  unfold sp_scfD at hs
  simp only at hs
  split at hs
  · rename_i s
    cases hs
    refine h s ?_ ?_
    · exact hp.1
    · exact hp.2
  · cases hs
def sp_scfO : FSpec := ⟨[], fun | [.one (.str s), .one (.fnv 118 [])] => some ([Asc s, s.length ≤ 1000000000], .one (.bool (anyP isOdd s))) | _ => none⟩
theorem vc_scfO (s : List UInt8) : vcP [(142, sp_sifO)] [] misc Tryz.f121 (.nil) [.one (.str s), .one (.fnv 118 [])] (.one (.bool (anyP isOdd s))) = ((∀ (c : UInt8), c ∈ s → UInt8.toNat c < (128 : Nat)) ∧ List.length s ≤ (1000000000 : Nat) ∧ decide (idxZ (bP isOdd true) s ≥ (0 : Int)) = anyP isOdd s) := by kernel_rfl
set_option maxHeartbeats 4000000 in
theorem of_scfO (h : ∀ (s : List UInt8), (Asc s) → (s.length ≤ 1000000000) → vcP [(142, sp_sifO)] [] misc Tryz.f121 (.nil) [.one (.str s), .one (.fnv 118 [])] (.one (.bool (anyP isOdd s)))) : FnP 121 sp_scfO := by
  refine fnP_ok (cs := [(142, sp_sifO)]) (cas := []) (ms := misc) (.cons ok_sifO .nil) .nil misc_ok 121 Tryz.f121 (by kernel_rfl) (by kernel_rfl) (by kernel_rfl) (fun _ => .nil) ?_
  intro pvs p r hs hp
  unfold sp_scfO at hs
  simp only at hs
  split at hs
  · rename_i s
    cases hs
    refine h s ?_ ?_
    · exact hp.1
    · exact hp.2
  · cases hs
theorem any_idx (P : Int → Bool) (s : List UInt8) : decide (idxZ (bP P true) s ≥ 0) = anyP P s := by
  unfold idxZ anyP
  rw [Bool.eq_iff_iff, decide_eq_true_iff, List.any_eq_true]
  by_cases h : s.findIdx (bP P true) < s.length
  · rw [if_pos h]
    have h1 := List.findIdx_getElem (w := h)
    refine ⟨fun _ => ⟨_, List.getElem_mem h, by simpa [bP] using h1⟩, fun _ => by omega⟩
  · rw [if_neg h]
    have h0 : s.findIdx (bP P true) = s.length := by have := List.findIdx_le_length (p := bP P true) (xs := s); omega
    rw [List.findIdx_eq_length] at h0
    refine ⟨fun h => absurd h (by decide), ?_⟩
    rintro ⟨c, hc, h1⟩
    have := h0 c hc
    unfold bP at this
    rw [h1] at this
    exact absurd this (by decide)
theorem ok_scfD : FnP 121 sp_scfD := of_scfD (by
  intro s hs hn
  rw [vc_scfD]
  exact ⟨hs, hn, any_idx isDig s⟩)
theorem ok_scfO : FnP 121 sp_scfO := of_scfO (by
  intro s hs hn
  rw [vc_scfO]
  exact ⟨hs, hn, any_idx isOdd s⟩)
theorem drop_idx (P : Int → Bool) (s : List UInt8) : s.drop (s.findIdx (bP P false)) = dropP P s := by
  unfold dropP
  induction s with
  | nil => rfl
  | cons c l ih =>
    rw [List.findIdx_cons]
    cases h : P (c.toNat : Int) with
    | true =>
      have : bP P false c = false := by unfold bP; rw [h]; rfl
      rw [this, List.dropWhile_cons_of_pos (by simpa using h)]
      simpa using ih
    | false =>
      have : bP P false c = true := by unfold bP; rw [h]; rfl
      rw [this, List.dropWhile_cons_of_neg (by simp [h])]
      rfl
theorem trim_of (P : Int → Bool) (s : List UInt8) : br (idxZ (bP P false) s == -1) ([] = dropP P s) ((0 ≤ idxZ (bP P false) s ∧ idxZ (bP P false) s ≤ s.length) ∧ s.drop (idxZ (bP P false) s).toNat = dropP P s) := by
  have h1 := drop_idx P s
  have h2 := List.findIdx_le_length (p := bP P false) (xs := s)
  unfold idxZ
  split
  · refine br_of (fun h => ?_) fun h => ⟨⟨by omega, by omega⟩, by rw [Int.toNat_natCast]; exact h1⟩
    have := eq_of_beq h; omega
  · refine br_of (fun h => ?_) fun h => absurd h (by decide)
    rw [← h1, List.drop_of_length_le (by omega)]
theorem ok_strim1 : FnP 139 sp_strim1 := of_strim1 (by
  intro s c hs hn
  rw [vc_strim1]
  exact ⟨hs, hn, trim_of (· == c) s⟩)
theorem ok_strimD : FnP 139 sp_strimD := of_strimD (by
  intro s hs hn
  rw [vc_strimD]
  exact ⟨hs, hn, trim_of isDig s⟩)
theorem dropP_suffix (P : Int → Bool) (s : List UInt8) : dropP P s <:+ s := List.dropWhile_suffix _
theorem dropP_len (P : Int → Bool) (s : List UInt8) : (dropP P s).length ≤ s.length := (dropP_suffix P s).length_le
theorem dropP_asc {P : Int → Bool} {s : List UInt8} (h : Asc s) : Asc (dropP P s) := fun c hc => h c ((dropP_suffix P s).subset hc)
/-! ### figurehead/number.spans -/
def span1 (P : Int → Bool) (s : List UInt8) : Int := (s.length : Int) - ((dropP P s).length : Int)
def sp_spans1 : ASpec := ⟨fun | [.one (.str s), .one (.slc 0)], [(0, some (.lit 40 1 [.fn 140 [(1, 0)]])), (1, some (.ro 21 [.int .i32 c]))] => some ([Asc s, s.length ≤ 1000000000], .tup [(false, [.slc 16]), (false, [.bool (decide (dropP (· == c) s = []))])], [(16, some (.row 3 (.ints .i64 [span1 (· == c) s])))]) | _, _ => none⟩
theorem vc_spans1 (s : List UInt8) (c : Int) : vcA [(139, sp_strim1)] [] misc Tryz.f116 (.turns 3 2 (fun _ => .nil) .nil) [.one (.str s), .one (.slc 0)] [(0, some (.lit 40 1 [.fn 140 [(1, 0)]])), (1, some (.ro 21 [.int .i32 c]))] (.tup [(false, [.slc 16]), (false, [.bool (decide (dropP (· == c) s = []))])]) [(16, some (.row 3 (.ints .i64 [span1 (· == c) s])))] = (((0 : Int) ≤ (0 : Int) ∧ (0 : Int) < (↑(1 : Nat) : Int)) ∧ (∀ (c : UInt8), c ∈ s → UInt8.toNat c < (128 : Nat)) ∧ List.length s ≤ (1000000000 : Nat) ∧ inR IntKind.i64 ((↑(List.length s) : Int) - (↑(List.length (dropP (fun (x : Int) => x == c) s)) : Int)) ∧ ((0 : Nat) + (1 : Nat)) * (8 : Nat) ≤ (140737488355328 : Nat) ∧ inR IntKind.i64 ((0 : Int) + (1 : Int)) ∧ decide (dropP (fun (x : Int) => x == c) s = ([] : List UInt8)) = decide (dropP (fun (x : Int) => x == c) s = []) ∧ [] ++ [(↑(List.length s) : Int) - (↑(List.length (dropP (fun (x : Int) => x == c) s)) : Int)] = [span1 (fun (x : Int) => x == c) s]) := by kernel_rfl
set_option maxHeartbeats 4000000 in
theorem of_spans1 (h : ∀ (s : List UInt8) (c : Int), (Asc s) → (s.length ≤ 1000000000) → vcA [(139, sp_strim1)] [] misc Tryz.f116 (.turns 3 2 (fun _ => .nil) .nil) [.one (.str s), .one (.slc 0)] [(0, some (.lit 40 1 [.fn 140 [(1, 0)]])), (1, some (.ro 21 [.int .i32 c]))] (.tup [(false, [.slc 16]), (false, [.bool (decide (dropP (· == c) s = []))])]) [(16, some (.row 3 (.ints .i64 [span1 (· == c) s])))]) : FnA 116 sp_spans1 := by
  refine fnA_ok (cs := [(139, sp_strim1)]) (cas := []) (ms := misc) (.cons ok_strim1 .nil) .nil misc_ok 116 Tryz.f116 (by kernel_rfl) (by kernel_rfl) (by kernel_rfl) (fun | [.one (.str s), .one (.slc 0)], [(0, some (.lit 40 1 [.fn 140 [(1, 0)]])), (1, some (.ro 21 [.int .i32 c]))] => .turns 3 2 (fun _ => .nil) .nil | _, _ => .nil) ?_
  intro args mem p r post hs hp
  unfold sp_spans1 at hs
  simp only at hs
  split at hs
  · rename_i s c
    cases hs
    refine h s c ?_ ?_
    · exact hp.1
    · exact hp.2
  · cases hs
/-- Two contracts of one function. -/
def FSpec.either (s t : FSpec) : FSpec := ⟨s.tmpl, fun pvs => match s.spec pvs with | some x => some x | none => t.spec pvs⟩
theorem either_ok {f : Nat} {s t : FSpec} (h : FnP f s) (k : FnP f t) : FnP f (s.either t) := by
  refine ⟨h.body, ?_⟩
  intro pvs p r hs
  unfold FSpec.either at hs
  simp only at hs
  split at hs
  · rename_i x hx
    cases hs
    exact h.calls _ _ _ hx
  · exact k.calls _ _ _ hs
def sp_strimX : FSpec := sp_strim1.either sp_strimD
theorem ok_strimX : FnP 139 sp_strimX := either_ok ok_strim1 ok_strimD
def sp_spansA : ASpec := ⟨fun | [.one (.str s), .one (.slc 0)], [(0, some (.lit 40 2 [.fn 140 [(1, 0)], .fn 119 []])), (1, some (.ro 21 [.int .i32 c]))] => some ([Asc s, s.length ≤ 1000000000], .tup [(false, [.slc 16]), (false, [.bool (decide (dropP isDig (dropP (· == c) s) = []))])], [(16, some (.row 3 (.ints .i64 [span1 (· == c) s, span1 isDig (dropP (· == c) s)])))]) | _, _ => none⟩
theorem vc_spansA (s : List UInt8) (c : Int) : vcA [(139, sp_strimX)] [] misc Tryz.f116 (.turns 3 3 (fun _ => .nil) .nil) [.one (.str s), .one (.slc 0)] [(0, some (.lit 40 2 [.fn 140 [(1, 0)], .fn 119 []])), (1, some (.ro 21 [.int .i32 c]))] (.tup [(false, [.slc 16]), (false, [.bool (decide (dropP isDig (dropP (· == c) s) = []))])]) [(16, some (.row 3 (.ints .i64 [span1 (· == c) s, span1 isDig (dropP (· == c) s)])))] = (((0 : Int) ≤ (0 : Int) ∧ (0 : Int) < (↑(2 : Nat) : Int)) ∧ (∀ (c : UInt8), c ∈ s → UInt8.toNat c < (128 : Nat)) ∧ List.length s ≤ (1000000000 : Nat) ∧ inR IntKind.i64 ((↑(List.length s) : Int) - (↑(List.length (dropP (fun (x : Int) => x == c) s)) : Int)) ∧ ((0 : Nat) + (1 : Nat)) * (8 : Nat) ≤ (140737488355328 : Nat) ∧ inR IntKind.i64 ((0 : Int) + (1 : Int)) ∧ ((0 : Int) ≤ (0 : Int) + (1 : Int) ∧ (0 : Int) + (1 : Int) < (↑(2 : Nat) : Int)) ∧ (∀ (c_1 : UInt8), c_1 ∈ dropP (fun (x : Int) => x == c) s → UInt8.toNat c_1 < (128 : Nat)) ∧ List.length (dropP (fun (x : Int) => x == c) s) ≤ (1000000000 : Nat) ∧ inR IntKind.i64 ((↑(List.length (dropP (fun (x : Int) => x == c) s)) : Int) - (↑(List.length (dropP isDig (dropP (fun (x : Int) => x == c) s))) : Int)) ∧ ((1 : Nat) + (1 : Nat)) * (8 : Nat) ≤ (140737488355328 : Nat) ∧ inR IntKind.i64 ((0 : Int) + (1 : Int) + (1 : Int)) ∧ decide (dropP isDig (dropP (fun (x : Int) => x == c) s) = ([] : List UInt8)) = decide (dropP isDig (dropP (fun (x : Int) => x == c) s) = []) ∧ [] ++ [(↑(List.length s) : Int) - (↑(List.length (dropP (fun (x : Int) => x == c) s)) : Int)] ++ [(↑(List.length (dropP (fun (x : Int) => x == c) s)) : Int) - (↑(List.length (dropP isDig (dropP (fun (x : Int) => x == c) s))) : Int)] = [span1 (fun (x : Int) => x == c) s, span1 isDig (dropP (fun (x : Int) => x == c) s)]) := by kernel_rfl
set_option maxHeartbeats 4000000 in
theorem of_spansA (h : ∀ (s : List UInt8) (c : Int), (Asc s) → (s.length ≤ 1000000000) → vcA [(139, sp_strimX)] [] misc Tryz.f116 (.turns 3 3 (fun _ => .nil) .nil) [.one (.str s), .one (.slc 0)] [(0, some (.lit 40 2 [.fn 140 [(1, 0)], .fn 119 []])), (1, some (.ro 21 [.int .i32 c]))] (.tup [(false, [.slc 16]), (false, [.bool (decide (dropP isDig (dropP (· == c) s) = []))])]) [(16, some (.row 3 (.ints .i64 [span1 (· == c) s, span1 isDig (dropP (· == c) s)])))]) : FnA 116 sp_spansA := by
  refine fnA_ok (cs := [(139, sp_strimX)]) (cas := []) (ms := misc) (.cons ok_strimX .nil) .nil misc_ok 116 Tryz.f116 (by kernel_rfl) (by kernel_rfl) (by kernel_rfl) (fun | [.one (.str s), .one (.slc 0)], [(0, some (.lit 40 2 [.fn 140 [(1, 0)], .fn 119 []])), (1, some (.ro 21 [.int .i32 c]))] => .turns 3 3 (fun _ => .nil) .nil | _, _ => .nil) ?_
  intro args mem p r post hs hp
  unfold sp_spansA at hs
  simp only at hs
  split at hs
  · rename_i s c
    cases hs
    refine h s c ?_ ?_
    · exact hp.1
    · exact hp.2
  · cases hs
def sp_spansB : ASpec := ⟨fun | [.one (.str s), .one (.slc 0)], [(0, some (.lit 40 2 [.fn 119 [], .fn 140 [(1, 0)]])), (1, some (.ro 21 [.int .i32 c]))] => some ([Asc s, s.length ≤ 1000000000], .tup [(false, [.slc 16]), (false, [.bool (decide (dropP (· == c) (dropP isDig s) = []))])], [(16, some (.row 3 (.ints .i64 [span1 isDig s, span1 (· == c) (dropP isDig s)])))]) | _, _ => none⟩
theorem vc_spansB (s : List UInt8) (c : Int) : vcA [(139, sp_strimX)] [] misc Tryz.f116 (.turns 3 3 (fun _ => .nil) .nil) [.one (.str s), .one (.slc 0)] [(0, some (.lit 40 2 [.fn 119 [], .fn 140 [(1, 0)]])), (1, some (.ro 21 [.int .i32 c]))] (.tup [(false, [.slc 16]), (false, [.bool (decide (dropP (· == c) (dropP isDig s) = []))])]) [(16, some (.row 3 (.ints .i64 [span1 isDig s, span1 (· == c) (dropP isDig s)])))] = (letI v0 := (↑(List.length (dropP isDig s)) : Int); (((0 : Int) ≤ (0 : Int) ∧ (0 : Int) < (↑(2 : Nat) : Int)) ∧ (∀ (c : UInt8), c ∈ s → UInt8.toNat c < (128 : Nat)) ∧ List.length s ≤ (1000000000 : Nat) ∧ inR IntKind.i64 ((↑(List.length s) : Int) - v0) ∧ ((0 : Nat) + (1 : Nat)) * (8 : Nat) ≤ (140737488355328 : Nat) ∧ inR IntKind.i64 ((0 : Int) + (1 : Int)) ∧ ((0 : Int) ≤ (0 : Int) + (1 : Int) ∧ (0 : Int) + (1 : Int) < (↑(2 : Nat) : Int)) ∧ (∀ (c : UInt8), c ∈ dropP isDig s → UInt8.toNat c < (128 : Nat)) ∧ List.length (dropP isDig s) ≤ (1000000000 : Nat) ∧ inR IntKind.i64 (v0 - (↑(List.length (dropP (fun (x : Int) => x == c) (dropP isDig s))) : Int)) ∧ ((1 : Nat) + (1 : Nat)) * (8 : Nat) ≤ (140737488355328 : Nat) ∧ inR IntKind.i64 ((0 : Int) + (1 : Int) + (1 : Int)) ∧ decide (dropP (fun (x : Int) => x == c) (dropP isDig s) = ([] : List UInt8)) = decide (dropP (fun (x : Int) => x == c) (dropP isDig s) = []) ∧ [] ++ [(↑(List.length s) : Int) - v0] ++ [v0 - (↑(List.length (dropP (fun (x : Int) => x == c) (dropP isDig s))) : Int)] = [span1 isDig s, span1 (fun (x : Int) => x == c) (dropP isDig s)])) := by kernel_rfl
set_option maxHeartbeats 4000000 in
theorem of_spansB (h : ∀ (s : List UInt8) (c : Int), (Asc s) → (s.length ≤ 1000000000) → vcA [(139, sp_strimX)] [] misc Tryz.f116 (.turns 3 3 (fun _ => .nil) .nil) [.one (.str s), .one (.slc 0)] [(0, some (.lit 40 2 [.fn 119 [], .fn 140 [(1, 0)]])), (1, some (.ro 21 [.int .i32 c]))] (.tup [(false, [.slc 16]), (false, [.bool (decide (dropP (· == c) (dropP isDig s) = []))])]) [(16, some (.row 3 (.ints .i64 [span1 isDig s, span1 (· == c) (dropP isDig s)])))]) : FnA 116 sp_spansB := by
  refine fnA_ok (cs := [(139, sp_strimX)]) (cas := []) (ms := misc) (.cons ok_strimX .nil) .nil misc_ok 116 Tryz.f116 (by kernel_rfl) (by kernel_rfl) (by kernel_rfl) (fun | [.one (.str s), .one (.slc 0)], [(0, some (.lit 40 2 [.fn 119 [], .fn 140 [(1, 0)]])), (1, some (.ro 21 [.int .i32 c]))] => .turns 3 3 (fun _ => .nil) .nil | _, _ => .nil) ?_
  intro args mem p r post hs hp
  unfold sp_spansB at hs
  simp only at hs
  split at hs
  · rename_i s c
    cases hs
    refine h s c ?_ ?_
    · exact hp.1
    · exact hp.2
  · cases hs
def sp_spansC : ASpec := ⟨fun | [.one (.str s), .one (.slc 0)], [(0, some (.lit 40 3 [.fn 140 [(1, 0)], .fn 140 [(2, 0)], .fn 140 [(3, 0)]])), (1, some (.ro 21 [.int .i32 c])), (2, some (.ro 21 [.int .i32 d])), (3, some (.ro 21 [.int .i32 e]))] => some ([Asc s, s.length ≤ 1000000000], .tup [(false, [.slc 16]), (false, [.bool (decide (dropP (· == e) (dropP (· == d) (dropP (· == c) s)) = []))])], [(16, some (.row 3 (.ints .i64 [span1 (· == c) s, span1 (· == d) (dropP (· == c) s), span1 (· == e) (dropP (· == d) (dropP (· == c) s))])))]) | _, _ => none⟩
theorem vc_spansC (s : List UInt8) (c d e : Int) : vcA [(139, sp_strimX)] [] misc Tryz.f116 (.turns 3 4 (fun _ => .nil) .nil) [.one (.str s), .one (.slc 0)] [(0, some (.lit 40 3 [.fn 140 [(1, 0)], .fn 140 [(2, 0)], .fn 140 [(3, 0)]])), (1, some (.ro 21 [.int .i32 c])), (2, some (.ro 21 [.int .i32 d])), (3, some (.ro 21 [.int .i32 e]))] (.tup [(false, [.slc 16]), (false, [.bool (decide (dropP (· == e) (dropP (· == d) (dropP (· == c) s)) = []))])]) [(16, some (.row 3 (.ints .i64 [span1 (· == c) s, span1 (· == d) (dropP (· == c) s), span1 (· == e) (dropP (· == d) (dropP (· == c) s))])))] = (((0 : Int) ≤ (0 : Int) ∧ (0 : Int) < (↑(3 : Nat) : Int)) ∧ (∀ (c : UInt8), c ∈ s → UInt8.toNat c < (128 : Nat)) ∧ List.length s ≤ (1000000000 : Nat) ∧ inR IntKind.i64 ((↑(List.length s) : Int) - (↑(List.length (dropP (fun (x : Int) => x == c) s)) : Int)) ∧ ((0 : Nat) + (1 : Nat)) * (8 : Nat) ≤ (140737488355328 : Nat) ∧ inR IntKind.i64 ((0 : Int) + (1 : Int)) ∧ ((0 : Int) ≤ (0 : Int) + (1 : Int) ∧ (0 : Int) + (1 : Int) < (↑(3 : Nat) : Int)) ∧ (∀ (c_1 : UInt8), c_1 ∈ dropP (fun (x : Int) => x == c) s → UInt8.toNat c_1 < (128 : Nat)) ∧ List.length (dropP (fun (x : Int) => x == c) s) ≤ (1000000000 : Nat) ∧ inR IntKind.i64 ((↑(List.length (dropP (fun (x : Int) => x == c) s)) : Int) - (↑(List.length (dropP (fun (x : Int) => x == d) (dropP (fun (x : Int) => x == c) s))) : Int)) ∧ ((1 : Nat) + (1 : Nat)) * (8 : Nat) ≤ (140737488355328 : Nat) ∧ inR IntKind.i64 ((0 : Int) + (1 : Int) + (1 : Int)) ∧ ((0 : Int) ≤ (0 : Int) + (1 : Int) + (1 : Int) ∧ (0 : Int) + (1 : Int) + (1 : Int) < (↑(3 : Nat) : Int)) ∧ (∀ (c_1 : UInt8), c_1 ∈ dropP (fun (x : Int) => x == d) (dropP (fun (x : Int) => x == c) s) → UInt8.toNat c_1 < (128 : Nat)) ∧ List.length (dropP (fun (x : Int) => x == d) (dropP (fun (x : Int) => x == c) s)) ≤ (1000000000 : Nat) ∧ inR IntKind.i64 ((↑(List.length (dropP (fun (x : Int) => x == d) (dropP (fun (x : Int) => x == c) s))) : Int) - (↑(List.length (dropP (fun (x : Int) => x == e) (dropP (fun (x : Int) => x == d) (dropP (fun (x : Int) => x == c) s)))) : Int)) ∧ (Nat.succ (Nat.add (List.length (List.append [] [(↑(List.length (dropP (fun (x : Int) => x == c) s)) : Int) - (↑(List.length (dropP (fun (x : Int) => x == d) (dropP (fun (x : Int) => x == c) s))) : Int)])) (0 : Nat)) + (1 : Nat)) * (8 : Nat) ≤ (140737488355328 : Nat) ∧ inR IntKind.i64 ((0 : Int) + (1 : Int) + (1 : Int) + (1 : Int)) ∧ decide (dropP (fun (x : Int) => x == e) (dropP (fun (x : Int) => x == d) (dropP (fun (x : Int) => x == c) s)) = ([] : List UInt8)) = decide (dropP (fun (x : Int) => x == e) (dropP (fun (x : Int) => x == d) (dropP (fun (x : Int) => x == c) s)) = []) ∧ [] ++ [(↑(List.length s) : Int) - (↑(List.length (dropP (fun (x : Int) => x == c) s)) : Int)] ++ [(↑(List.length (dropP (fun (x : Int) => x == c) s)) : Int) - (↑(List.length (dropP (fun (x : Int) => x == d) (dropP (fun (x : Int) => x == c) s))) : Int)] ++ [(↑(List.length (dropP (fun (x : Int) => x == d) (dropP (fun (x : Int) => x == c) s))) : Int) - (↑(List.length (dropP (fun (x : Int) => x == e) (dropP (fun (x : Int) => x == d) (dropP (fun (x : Int) => x == c) s)))) : Int)] = [span1 (fun (x : Int) => x == c) s, span1 (fun (x : Int) => x == d) (dropP (fun (x : Int) => x == c) s), span1 (fun (x : Int) => x == e) (dropP (fun (x : Int) => x == d) (dropP (fun (x : Int) => x == c) s))]) := by kernel_rfl
set_option maxHeartbeats 4000000 in
theorem of_spansC (h : ∀ (s : List UInt8) (c d e : Int), (Asc s) → (s.length ≤ 1000000000) → vcA [(139, sp_strimX)] [] misc Tryz.f116 (.turns 3 4 (fun _ => .nil) .nil) [.one (.str s), .one (.slc 0)] [(0, some (.lit 40 3 [.fn 140 [(1, 0)], .fn 140 [(2, 0)], .fn 140 [(3, 0)]])), (1, some (.ro 21 [.int .i32 c])), (2, some (.ro 21 [.int .i32 d])), (3, some (.ro 21 [.int .i32 e]))] (.tup [(false, [.slc 16]), (false, [.bool (decide (dropP (· == e) (dropP (· == d) (dropP (· == c) s)) = []))])]) [(16, some (.row 3 (.ints .i64 [span1 (· == c) s, span1 (· == d) (dropP (· == c) s), span1 (· == e) (dropP (· == d) (dropP (· == c) s))])))]) : FnA 116 sp_spansC := by
  refine fnA_ok (cs := [(139, sp_strimX)]) (cas := []) (ms := misc) (.cons ok_strimX .nil) .nil misc_ok 116 Tryz.f116 (by kernel_rfl) (by kernel_rfl) (by kernel_rfl) (fun | [.one (.str s), .one (.slc 0)], [(0, some (.lit 40 3 [.fn 140 [(1, 0)], .fn 140 [(2, 0)], .fn 140 [(3, 0)]])), (1, some (.ro 21 [.int .i32 c])), (2, some (.ro 21 [.int .i32 d])), (3, some (.ro 21 [.int .i32 e]))] => .turns 3 4 (fun _ => .nil) .nil | _, _ => .nil) ?_
  intro args mem p r post hs hp
  unfold sp_spansC at hs
  simp only at hs
  split at hs
  · rename_i s c d e
    cases hs
    refine h s c d e ?_ ?_
    · exact hp.1
    · exact hp.2
  · cases hs
theorem ok_spans1 : FnA 116 sp_spans1 := of_spans1 (by
  intro s c hs hn
  rw [vc_spans1]
  have h1 := dropP_len (· == c) s
  exact ⟨by decide, hs, hn, by simp only [inR]; omega, by decide, by simp only [inR]; omega, rfl, rfl⟩)
theorem ok_spansA : FnA 116 sp_spansA := of_spansA (by
  intro s c hs hn
  rw [vc_spansA]
  have h1 := dropP_len (· == c) s
  have h2 := dropP_len isDig (dropP (· == c) s)
  exact ⟨by decide, hs, hn, by simp only [inR]; omega, by decide, by simp only [inR]; omega, by decide, dropP_asc hs, by omega, by simp only [inR]; omega, by decide, by simp only [inR]; omega, rfl, rfl⟩)
theorem ok_spansB : FnA 116 sp_spansB := of_spansB (by
  intro s c hs hn
  rw [vc_spansB]
  have h1 := dropP_len isDig s
  have h2 := dropP_len (· == c) (dropP isDig s)
  exact ⟨by decide, hs, hn, by simp only [inR]; omega, by decide, by simp only [inR]; omega, by decide, dropP_asc hs, by omega, by simp only [inR]; omega, by decide, by simp only [inR]; omega, rfl, rfl⟩)
theorem ok_spansC : FnA 116 sp_spansC := of_spansC (by
  intro s c d e hs hn
  rw [vc_spansC]
  have h1 := dropP_len (· == c) s
  have h2 := dropP_len (· == d) (dropP (· == c) s)
  have h3 := dropP_len (· == e) (dropP (· == d) (dropP (· == c) s))
  exact ⟨by decide, hs, hn, by simp only [inR]; omega, by decide, by simp only [inR]; omega, by decide, dropP_asc hs, by omega, by simp only [inR]; omega, by decide, by simp only [inR]; omega, by decide, dropP_asc (dropP_asc hs), by omega, by simp only [inR]; omega, (show (2 + 1) * 8 ≤ 140737488355328 from by decide), by simp only [inR]; omega, rfl, rfl⟩)
def ASpec.either (s t : ASpec) : ASpec := ⟨fun xs m => match s.spec xs m with | some x => some x | none => t.spec xs m⟩
theorem eitherA_ok {f : Nat} {s t : ASpec} (h : FnA f s) (k : FnA f t) : FnA f (s.either t) := by
  refine ⟨h.body, ?_⟩
  intro args mem p r post hs
  unfold ASpec.either at hs
  simp only at hs
  split at hs
  · rename_i x hx
    cases hs
    exact h.calls _ _ _ _ _ hx
  · exact k.calls _ _ _ _ _ hs
def sp_spansAB : ASpec := sp_spansA.either sp_spansB
theorem ok_spansAB : FnA 116 sp_spansAB := eitherA_ok ok_spansA ok_spansB
end Go.Proofs.YtglfkihckkjniaaGreatDoor.Vx
