/-
VX, functions 1: code points and bytes, the references'. No statement of the seat is proved here.
-/
import Derived.Test.YtglfkihckkjniaaGreatDoorVxF00
import Derived.Test.YtglfkihckkjniaaGreatDoorVxM1
set_option maxRecDepth 100000
set_option linter.unusedVariables false
set_option linter.unusedSimpArgs false
namespace Go.Proofs.YtglfkihckkjniaaGreatDoor.Vx
open Go Go.RowKit

/-! ### figureheadref11.Scalar -/
def sp_scalar : FSpec := ⟨[], fun | [.one (.int .i32 r)] => some ([], .one (.bool (scalar r))) | _ => none⟩
theorem vc_scalar (r : Int) : vcP [] [] misc Tryz.f21 (.nil) [.one (.int .i32 r)] (.one (.bool (scalar r))) = (br (decide (r ≥ (0 : Int))) (br (decide (r ≤ (1114111 : Int))) (br (decide (r < (55296 : Int))) (true = scalar r) (decide (r > (57343 : Int)) = scalar r)) (false = scalar r)) (false = scalar r)) := by kernel_rfl
set_option maxHeartbeats 4000000 in
theorem of_scalar (h : ∀ (r : Int), vcP [] [] misc Tryz.f21 (.nil) [.one (.int .i32 r)] (.one (.bool (scalar r)))) : FnP 21 sp_scalar := by
  refine fnP_ok (cs := []) (cas := []) (ms := misc) .nil .nil misc_ok 21 Tryz.f21 (by kernel_rfl) (by kernel_rfl) (by kernel_rfl) (fun _ => .nil) ?_
  intro pvs p r hs hp
  unfold sp_scalar at hs
  simp only at hs
  split at hs
  · rename_i r
    cases hs
    refine h r
  · cases hs
theorem ok_scalar : FnP 21 sp_scalar := of_scalar (by
  intro r
  rw [vc_scalar]
  simp only [scalar]
  repeat' (first | apply And.intro | apply br_of | intro _)
  all_goals (simp_all <;> omega))
/-! ### figureheadref11.Bytes -/
def sp_bytes : FSpec := ⟨[], fun | [.one (.int .i32 r)] => some ([scalar r = true], .one (.rd (.ints .u8 (Lib.encodeRuneZ r)))) | _ => none⟩
theorem vc_bytes (r : Int) : vcP [] [] misc Tryz.f22 (.nil) [.one (.int .i32 r)] (.one (.rd (.ints .u8 (Lib.encodeRuneZ r)))) = (letI v0 := ((0 : Int) ≤ r ∧ (0 : Int) < (64 : Int) ∧ inR IntKind.i64 (r / (64 : Int))); letI v1 := ((128 : Int) + r % (64 : Int)); letI v2 := ((128 : Int) + r / (64 : Int) % (64 : Int)); letI v3 := ((0 : Int) ≤ r ∧ (0 : Int) < (4096 : Int) ∧ inR IntKind.i64 (r / (4096 : Int))); letI v4 := ((0 : Int) ≤ r ∧ (0 : Int) < (64 : Int)); (inR IntKind.i64 r ∧ br (decide (r < (128 : Int))) (inR IntKind.u8 r ∧ [] ++ [r] = Lib.encodeRuneZ r) (br (decide (r < (2048 : Int))) (v0 ∧ inR IntKind.i64 ((192 : Int) + r / (64 : Int)) ∧ inR IntKind.u8 ((192 : Int) + r / (64 : Int)) ∧ v4 ∧ inR IntKind.i64 v1 ∧ inR IntKind.u8 v1 ∧ [] ++ [(192 : Int) + r / (64 : Int)] ++ [(128 : Int) + r % (64 : Int)] = Lib.encodeRuneZ r) (br (decide (r < (65536 : Int))) (v3 ∧ inR IntKind.i64 ((224 : Int) + r / (4096 : Int)) ∧ inR IntKind.u8 ((224 : Int) + r / (4096 : Int)) ∧ v0 ∧ ((0 : Int) ≤ r / (64 : Int) ∧ (0 : Int) < (64 : Int)) ∧ inR IntKind.i64 v2 ∧ inR IntKind.u8 v2 ∧ v4 ∧ inR IntKind.i64 v1 ∧ inR IntKind.u8 v1 ∧ [] ++ [(224 : Int) + r / (4096 : Int)] ++ [(128 : Int) + r / (64 : Int) % (64 : Int)] ++ [(128 : Int) + r % (64 : Int)] = Lib.encodeRuneZ r) (((0 : Int) ≤ r ∧ (0 : Int) < (262144 : Int) ∧ inR IntKind.i64 (r / (262144 : Int))) ∧ inR IntKind.i64 ((240 : Int) + r / (262144 : Int)) ∧ inR IntKind.u8 ((240 : Int) + r / (262144 : Int)) ∧ v3 ∧ ((0 : Int) ≤ r / (4096 : Int) ∧ (0 : Int) < (64 : Int)) ∧ inR IntKind.i64 ((128 : Int) + r / (4096 : Int) % (64 : Int)) ∧ inR IntKind.u8 ((128 : Int) + r / (4096 : Int) % (64 : Int)) ∧ v0 ∧ ((0 : Int) ≤ r / (64 : Int) ∧ (0 : Int) < (64 : Int)) ∧ inR IntKind.i64 v2 ∧ inR IntKind.u8 v2 ∧ v4 ∧ inR IntKind.i64 v1 ∧ inR IntKind.u8 v1 ∧ [] ++ [(240 : Int) + r / (262144 : Int)] ++ [(128 : Int) + r / (4096 : Int) % (64 : Int)] ++ [(128 : Int) + r / (64 : Int) % (64 : Int)] ++ [(128 : Int) + r % (64 : Int)] = Lib.encodeRuneZ r))))) := by kernel_rfl
set_option maxHeartbeats 4000000 in
theorem of_bytes (h : ∀ (r : Int), (scalar r = true) → vcP [] [] misc Tryz.f22 (.nil) [.one (.int .i32 r)] (.one (.rd (.ints .u8 (Lib.encodeRuneZ r))))) : FnP 22 sp_bytes := by
  refine fnP_ok (cs := []) (cas := []) (ms := misc) .nil .nil misc_ok 22 Tryz.f22 (by kernel_rfl) (by kernel_rfl) (by kernel_rfl) (fun _ => .nil) ?_
  intro pvs p r hs hp
  unfold sp_bytes at hs
  simp only at hs
  split at hs
  · rename_i r
    cases hs
    refine h r ?_
    · exact hp
  · cases hs
theorem ok_bytes : FnP 22 sp_bytes := of_bytes (by
  intro r hr
  rw [vc_bytes]
  rw [scalar_iff] at hr
  simp only [inR, List.nil_append, List.cons_append]
  refine ⟨by omega, br_of (fun h => ?_) fun h => br_of (fun h => ?_) fun h => br_of (fun h => ?_) fun h => ?_⟩ <;> simp only [decide_eq_true_eq, decide_eq_false_iff_not] at *
  · exact ⟨by omega, (Lib.encodeRuneZ_one hr.1 (by omega)).symm⟩
  · exact ⟨by omega, by omega, by omega, by omega, by omega, by omega, (Lib.encodeRuneZ_two (by omega) (by omega)).symm⟩
  · exact ⟨by omega, by omega, by omega, by omega, by omega, by omega, by omega, by omega, by omega, by omega, (Lib.encodeRuneZ_three (by omega)).symm⟩
  · exact ⟨by omega, by omega, by omega, by omega, by omega, by omega, by omega, by omega, by omega, by omega, by omega, by omega, by omega, by omega, (Lib.encodeRuneZ_four (by omega) (by omega)).symm⟩)
/-! ### figureheadref13.Sign, Mark, Needs -/
def signK (r : Int) : Int := if r = 45 then 2 else if r = 43 then 3 else if r = 37 then 4 else if r = 8240 then 5 else if r = 164 then 6 else 0
def isMark (r : Int) : Bool := decide (48 ≤ r ∧ r ≤ 57) || r == 35 || r == 64 || r == 44 || r == 46 || r == 59 || r == 42
def sp_rsign : FSpec := ⟨[], fun | [.one (.int .i32 r)] => some ([], .one (.int .i64 (signK r))) | _ => none⟩
theorem vc_rsign (r : Int) : vcP [] [] misc Tryz.f101 (.nil) [.one (.int .i32 r)] (.one (.int .i64 (signK r))) = (br (r == (45 : Int)) ((2 : Int) = signK r) (br (r == (43 : Int)) ((3 : Int) = signK r) (br (r == (37 : Int)) ((4 : Int) = signK r) (br (r == (8240 : Int)) ((5 : Int) = signK r) (br (r == (164 : Int)) ((6 : Int) = signK r) ((0 : Int) = signK r)))))) := by kernel_rfl
set_option maxHeartbeats 4000000 in
theorem of_rsign (h : ∀ (r : Int), vcP [] [] misc Tryz.f101 (.nil) [.one (.int .i32 r)] (.one (.int .i64 (signK r)))) : FnP 101 sp_rsign := by
  refine fnP_ok (cs := []) (cas := []) (ms := misc) .nil .nil misc_ok 101 Tryz.f101 (by kernel_rfl) (by kernel_rfl) (by kernel_rfl) (fun _ => .nil) ?_
  intro pvs p r hs hp
  unfold sp_rsign at hs
  simp only at hs
  split at hs
  · rename_i r
    cases hs
    refine h r
  · cases hs
def sp_rmark : FSpec := ⟨[], fun | [.one (.int .i32 r)] => some ([], .one (.bool (isMark r))) | _ => none⟩
theorem vc_rmark (r : Int) : vcP [] [] misc Tryz.f100 (.nil) [.one (.int .i32 r)] (.one (.bool (isMark r))) = (letI v0 := (br (r == (35 : Int)) (true = isMark r) (br (r == (64 : Int)) (true = isMark r) (br (r == (44 : Int)) (true = isMark r) (br (r == (46 : Int)) (true = isMark r) (br (r == (59 : Int)) (true = isMark r) ((r == (42 : Int)) = isMark r)))))); (br (decide (r ≥ (48 : Int))) (br (decide (r ≤ (57 : Int))) (true = isMark r) v0) v0)) := by kernel_rfl
set_option maxHeartbeats 4000000 in
theorem of_rmark (h : ∀ (r : Int), vcP [] [] misc Tryz.f100 (.nil) [.one (.int .i32 r)] (.one (.bool (isMark r)))) : FnP 100 sp_rmark := by
  refine fnP_ok (cs := []) (cas := []) (ms := misc) .nil .nil misc_ok 100 Tryz.f100 (by kernel_rfl) (by kernel_rfl) (by kernel_rfl) (fun _ => .nil) ?_
  intro pvs p r hs hp
  unfold sp_rmark at hs
  simp only at hs
  split at hs
  · rename_i r
    cases hs
    refine h r
  · cases hs
theorem ok_rsign : FnP 101 sp_rsign := of_rsign (by
  intro x
  rw [vc_rsign]
  simp only [signK]
  repeat' (first | apply And.intro | apply br_of | intro _)
  all_goals (simp_all))
theorem ok_rmark : FnP 100 sp_rmark := of_rmark (by
  intro x
  rw [vc_rmark]
  simp only [isMark]
  repeat' (first | apply And.intro | apply br_of | intro _)
  all_goals (simp_all <;> omega))
def needsQ (r : Int) : Bool := decide (signK r > 0) || isMark r || r == 69 || r == 39
def sp_rneeds : FSpec := ⟨[], fun | [.one (.int .i32 r)] => some ([], .one (.bool (needsQ r))) | _ => none⟩
theorem vc_rneeds (r : Int) : vcP [(101, sp_rsign), (100, sp_rmark)] [] misc Tryz.f73 (.nil) [.one (.int .i32 r)] (.one (.bool (needsQ r))) = (br (decide (signK r > (0 : Int))) (true = needsQ r) (br (isMark r) (true = needsQ r) (br (r == (69 : Int)) (true = needsQ r) ((r == (39 : Int)) = needsQ r)))) := by kernel_rfl
set_option maxHeartbeats 4000000 in
theorem of_rneeds (h : ∀ (r : Int), vcP [(101, sp_rsign), (100, sp_rmark)] [] misc Tryz.f73 (.nil) [.one (.int .i32 r)] (.one (.bool (needsQ r)))) : FnP 73 sp_rneeds := by
  refine fnP_ok (cs := [(101, sp_rsign), (100, sp_rmark)]) (cas := []) (ms := misc) (.cons ok_rsign (.cons ok_rmark .nil)) .nil misc_ok 73 Tryz.f73 (by kernel_rfl) (by kernel_rfl) (by kernel_rfl) (fun _ => .nil) ?_
  intro pvs p r hs hp
  unfold sp_rneeds at hs
  simp only at hs
  split at hs
  · rename_i r
    cases hs
    refine h r
  · cases hs
theorem ok_rneeds : FnP 73 sp_rneeds := of_rneeds (by
  intro x
  rw [vc_rneeds]
  simp only [needsQ]
  repeat' (first | apply And.intro | apply br_of | intro _)
  all_goals (simp_all <;> omega))
/-! ### figureheadref11.First -/
def firstR (s : List UInt8) : Int := match step s with | some x => x.1 | none => 0
def firstN (s : List UInt8) : Int := match step s with | some x => (x.2 : Int) | none => 0
def sp_first : FSpec := ⟨[], fun | [.one (.str s)] => some ([], .tup [(false, [.int .i32 (firstR s)]), (false, [.int .i64 (firstN s)])]) | _ => none⟩
theorem vc_first (s : List UInt8) : vcP [(21, sp_scalar), (22, sp_bytes)] [] misc Tryz.f55 (.turns 15 5 (fun _ => .nil) .nil) [.one (.str s)] (.tup [(false, [.int .i32 (firstR s)]), (false, [.int .i64 (firstN s)])]) = (letI v0 := (((bAt s (0 : Int) - (240 : Int)) * (64 : Int) + bAt s (1 : Int) - (128 : Int)) * (64 : Int) + bAt s ((1 : Int) + (1 : Int)) - (128 : Int)); letI v1 := ((0 : Int) = firstR s ∧ (0 : Int) = firstN s); letI v2 := (v0 * (64 : Int) + bAt s ((1 : Int) + (1 : Int) + (1 : Int)) - (128 : Int)); letI v3 := (((bAt s (0 : Int) - (224 : Int)) * (64 : Int) + bAt s (1 : Int) - (128 : Int)) * (64 : Int) + bAt s ((1 : Int) + (1 : Int)) - (128 : Int)); letI v4 := ((0 : Int) ≤ (1 : Int) + (1 : Int) ∧ (1 : Int) + (1 : Int) < (↑(List.length s) : Int)); letI v5 := ((0 : Int) ≤ (1 : Int) + (1 : Int) + (1 : Int) ∧ (1 : Int) + (1 : Int) + (1 : Int) < (↑(List.length s) : Int)); letI v6 := ((0 : Int) ≤ (1 : Int) ∧ (1 : Int) < (↑(List.length s) : Int)); letI v7 := ((bAt s (0 : Int) - (240 : Int)) * (64 : Int) + bAt s (1 : Int) - (128 : Int)); letI v8 := ((1 : Int) + (1 : Int) + (1 : Int)); letI v9 := ((bAt s (0 : Int) - (224 : Int)) * (64 : Int) + bAt s (1 : Int) - (128 : Int)); letI v10 := ((bAt s (0 : Int) - (192 : Int)) * (64 : Int) + bAt s (1 : Int) - (128 : Int)); letI v11 := (bAt s (0 : Int) - (240 : Int)); letI v12 := (inR IntKind.i32 v2 ∧ v0 * (64 : Int) + bAt s v8 - (128 : Int) = firstR s ∧ (4 : Int) = firstN s); letI v13 := (decide (bAt s ((1 : Int) + (1 : Int)) < (128 : Int))); letI v14 := (decide (bAt s ((1 : Int) + (1 : Int)) > (191 : Int))); letI v15 := (decide (bAt s (1 : Int) < (128 : Int))); letI v16 := (decide (bAt s (1 : Int) > (191 : Int))); letI v17 := ((0 : Int) ≤ (4 : Int) ∧ (4 : Int) ≤ (↑(List.length s) : Int)); letI v18 := (v7 * (64 : Int) + bAt s ((1 : Int) + (1 : Int))); letI v19 := (bAt s (0 : Int) - (224 : Int)); letI v20 := (bAt s ((1 : Int) + (1 : Int))); letI v21 := (decide ((↑(List.length s) : Int) < (4 : Int))); letI v22 := ((1 : Int) + (1 : Int) + (1 : Int) + (1 : Int)); letI v23 := (inR IntKind.i32 v3 ∧ v9 * (64 : Int) + bAt s ((1 : Int) + (1 : Int)) - (128 : Int) = firstR s ∧ (3 : Int) = firstN s); letI v24 := (decide (bAt s (0 : Int) ≥ (240 : Int))); letI v25 := (decide (bAt s (0 : Int) < (248 : Int))); letI v26 := (v11 * (64 : Int) + bAt s (1 : Int)); letI v27 := (decide (bAt s v8 < (128 : Int))); letI v28 := (decide (bAt s v8 > (191 : Int))); letI v29 := (bAt s (0 : Int) - (192 : Int)); letI v30 := (v0 * (64 : Int) + bAt s v8); (br (decide (s = ([] : List UInt8))) v1 (((0 : Int) ≤ (0 : Int) ∧ (0 : Int) < (↑(List.length s) : Int)) ∧ inR IntKind.i64 (bAt s (0 : Int)) ∧ br (decide (bAt s (0 : Int) < (128 : Int))) (br (decide ((↑(List.length s) : Int) < (1 : Int))) v1 (inR IntKind.i32 (bAt s (0 : Int)) ∧ br (!scalar (bAt s (0 : Int))) v1 (inR IntKind.i32 (bAt s (0 : Int)) ∧ scalar (bAt s (0 : Int)) = true ∧ ((0 : Int) ≤ (1 : Int) ∧ (1 : Int) ≤ (↑(List.length s) : Int)) ∧ br (!decide (List.map (fun (n : Int) => UInt8.ofNat (Int.toNat n)) (Lib.encodeRuneZ (bAt s (0 : Int))) = List.take (Int.toNat (1 : Int)) s)) v1 (inR IntKind.i32 (bAt s (0 : Int)) ∧ bAt s (0 : Int) = firstR s ∧ (1 : Int) = firstN s)))) (br (decide (bAt s (0 : Int) ≥ (192 : Int))) (br (decide (bAt s (0 : Int) < (224 : Int))) (inR IntKind.i64 v29 ∧ br (decide ((↑(List.length s) : Int) < (2 : Int))) v1 (inR IntKind.i64 (v29 * (64 : Int)) ∧ v6 ∧ inR IntKind.i64 (bAt s (1 : Int)) ∧ inR IntKind.i64 (v29 * (64 : Int) + bAt s (1 : Int)) ∧ inR IntKind.i64 v10 ∧ v6 ∧ br v15 v1 (v6 ∧ br v16 v1 (inR IntKind.i64 ((1 : Int) + (1 : Int)) ∧ inR IntKind.i32 v10 ∧ br (!scalar v10) v1 (inR IntKind.i32 v10 ∧ scalar v10 = true ∧ ((0 : Int) ≤ (2 : Int) ∧ (2 : Int) ≤ (↑(List.length s) : Int)) ∧ br (!decide (List.map (fun (n : Int) => UInt8.ofNat (Int.toNat n)) (Lib.encodeRuneZ v10) = List.take (Int.toNat (2 : Int)) s)) v1 (inR IntKind.i32 v10 ∧ v29 * (64 : Int) + bAt s (1 : Int) - (128 : Int) = firstR s ∧ (2 : Int) = firstN s)))))) (br (decide (bAt s (0 : Int) ≥ (224 : Int))) (br (decide (bAt s (0 : Int) < (240 : Int))) (inR IntKind.i64 v19 ∧ br (decide ((↑(List.length s) : Int) < (3 : Int))) v1 (inR IntKind.i64 (v19 * (64 : Int)) ∧ v6 ∧ inR IntKind.i64 (bAt s (1 : Int)) ∧ inR IntKind.i64 (v19 * (64 : Int) + bAt s (1 : Int)) ∧ inR IntKind.i64 v9 ∧ v6 ∧ br v15 v1 (v6 ∧ br v16 v1 (inR IntKind.i64 ((1 : Int) + (1 : Int)) ∧ inR IntKind.i64 (v9 * (64 : Int)) ∧ v4 ∧ inR IntKind.i64 v20 ∧ inR IntKind.i64 (v9 * (64 : Int) + bAt s ((1 : Int) + (1 : Int))) ∧ inR IntKind.i64 v3 ∧ v4 ∧ br v13 v1 (v4 ∧ br v14 v1 (inR IntKind.i64 v8 ∧ inR IntKind.i32 v3 ∧ br (!scalar v3) v1 (inR IntKind.i32 v3 ∧ scalar v3 = true ∧ ((0 : Int) ≤ (3 : Int) ∧ (3 : Int) ≤ (↑(List.length s) : Int)) ∧ br (!decide (List.map (fun (n : Int) => UInt8.ofNat (Int.toNat n)) (Lib.encodeRuneZ v3) = List.take (Int.toNat (3 : Int)) s)) v1 v23))))))) (br v24 (br v25 (inR IntKind.i64 v11 ∧ br v21 v1 (inR IntKind.i64 (v11 * (64 : Int)) ∧ v6 ∧ inR IntKind.i64 (bAt s (1 : Int)) ∧ inR IntKind.i64 v26 ∧ inR IntKind.i64 v7 ∧ v6 ∧ br v15 v1 (v6 ∧ br v16 v1 (inR IntKind.i64 ((1 : Int) + (1 : Int)) ∧ inR IntKind.i64 (v7 * (64 : Int)) ∧ v4 ∧ inR IntKind.i64 v20 ∧ inR IntKind.i64 v18 ∧ inR IntKind.i64 v0 ∧ v4 ∧ br v13 v1 (v4 ∧ br v14 v1 (inR IntKind.i64 v8 ∧ inR IntKind.i64 (v0 * (64 : Int)) ∧ v5 ∧ inR IntKind.i64 (bAt s v8) ∧ inR IntKind.i64 v30 ∧ inR IntKind.i64 v2 ∧ v5 ∧ br v27 v1 (v5 ∧ br v28 v1 (inR IntKind.i64 v22 ∧ inR IntKind.i32 v2 ∧ br (!scalar v2) v1 (inR IntKind.i32 v2 ∧ scalar v2 = true ∧ v17 ∧ br (!decide (List.map (fun (n : Int) => UInt8.ofNat (Int.toNat n)) (Lib.encodeRuneZ v2) = List.take (Int.toNat (4 : Int)) s)) v1 v12))))))))) v1) v1)) (br v24 (br v25 (inR IntKind.i64 v11 ∧ br v21 v1 (inR IntKind.i64 (v11 * (64 : Int)) ∧ v6 ∧ inR IntKind.i64 (bAt s (1 : Int)) ∧ inR IntKind.i64 v26 ∧ inR IntKind.i64 v7 ∧ v6 ∧ br v15 v1 (v6 ∧ br v16 v1 (inR IntKind.i64 ((1 : Int) + (1 : Int)) ∧ inR IntKind.i64 (v7 * (64 : Int)) ∧ v4 ∧ inR IntKind.i64 v20 ∧ inR IntKind.i64 v18 ∧ inR IntKind.i64 v0 ∧ v4 ∧ br v13 v1 (v4 ∧ br v14 v1 (inR IntKind.i64 v8 ∧ inR IntKind.i64 (v0 * (64 : Int)) ∧ v5 ∧ inR IntKind.i64 (bAt s v8) ∧ inR IntKind.i64 v30 ∧ inR IntKind.i64 v2 ∧ v5 ∧ br v27 v1 (v5 ∧ br v28 v1 (inR IntKind.i64 v22 ∧ inR IntKind.i32 v2 ∧ br (!scalar v2) v1 (inR IntKind.i32 v2 ∧ scalar v2 = true ∧ v17 ∧ br (!decide (List.map (fun (n : Int) => UInt8.ofNat (Int.toNat n)) (Lib.encodeRuneZ v2) = List.take (Int.toNat (4 : Int)) s)) v1 v12))))))))) v1) v1))) (br (decide (bAt s (0 : Int) ≥ (224 : Int))) (br (decide (bAt s (0 : Int) < (240 : Int))) (inR IntKind.i64 v19 ∧ br (decide ((↑(List.length s) : Int) < (3 : Int))) v1 (inR IntKind.i64 (v19 * (64 : Int)) ∧ v6 ∧ inR IntKind.i64 (bAt s (1 : Int)) ∧ inR IntKind.i64 (v19 * (64 : Int) + bAt s (1 : Int)) ∧ inR IntKind.i64 v9 ∧ v6 ∧ br v15 v1 (v6 ∧ br v16 v1 (inR IntKind.i64 ((1 : Int) + (1 : Int)) ∧ inR IntKind.i64 (v9 * (64 : Int)) ∧ v4 ∧ inR IntKind.i64 v20 ∧ inR IntKind.i64 (v9 * (64 : Int) + bAt s ((1 : Int) + (1 : Int))) ∧ inR IntKind.i64 v3 ∧ v4 ∧ br v13 v1 (v4 ∧ br v14 v1 (inR IntKind.i64 v8 ∧ inR IntKind.i32 v3 ∧ br (!scalar v3) v1 (inR IntKind.i32 v3 ∧ scalar v3 = true ∧ ((0 : Int) ≤ (3 : Int) ∧ (3 : Int) ≤ (↑(List.length s) : Int)) ∧ br (!decide (List.map (fun (n : Int) => UInt8.ofNat (Int.toNat n)) (Lib.encodeRuneZ v3) = List.take (Int.toNat (3 : Int)) s)) v1 v23))))))) (br v24 (br v25 (inR IntKind.i64 v11 ∧ br v21 v1 (inR IntKind.i64 (v11 * (64 : Int)) ∧ v6 ∧ inR IntKind.i64 (bAt s (1 : Int)) ∧ inR IntKind.i64 v26 ∧ inR IntKind.i64 v7 ∧ v6 ∧ br v15 v1 (v6 ∧ br v16 v1 (inR IntKind.i64 ((1 : Int) + (1 : Int)) ∧ inR IntKind.i64 (v7 * (64 : Int)) ∧ v4 ∧ inR IntKind.i64 v20 ∧ inR IntKind.i64 v18 ∧ inR IntKind.i64 v0 ∧ v4 ∧ br v13 v1 (v4 ∧ br v14 v1 (inR IntKind.i64 v8 ∧ inR IntKind.i64 (v0 * (64 : Int)) ∧ v5 ∧ inR IntKind.i64 (bAt s v8) ∧ inR IntKind.i64 v30 ∧ inR IntKind.i64 v2 ∧ v5 ∧ br v27 v1 (v5 ∧ br v28 v1 (inR IntKind.i64 v22 ∧ inR IntKind.i32 v2 ∧ br (!scalar v2) v1 (inR IntKind.i32 v2 ∧ scalar v2 = true ∧ v17 ∧ br (!decide (List.map (fun (n : Int) => UInt8.ofNat (Int.toNat n)) (Lib.encodeRuneZ v2) = List.take (Int.toNat (4 : Int)) s)) v1 v12))))))))) v1) v1)) (br v24 (br v25 (inR IntKind.i64 v11 ∧ br v21 v1 (inR IntKind.i64 (v11 * (64 : Int)) ∧ v6 ∧ inR IntKind.i64 (bAt s (1 : Int)) ∧ inR IntKind.i64 v26 ∧ inR IntKind.i64 v7 ∧ v6 ∧ br v15 v1 (v6 ∧ br v16 v1 (inR IntKind.i64 ((1 : Int) + (1 : Int)) ∧ inR IntKind.i64 (v7 * (64 : Int)) ∧ v4 ∧ inR IntKind.i64 v20 ∧ inR IntKind.i64 v18 ∧ inR IntKind.i64 v0 ∧ v4 ∧ br v13 v1 (v4 ∧ br v14 v1 (inR IntKind.i64 v8 ∧ inR IntKind.i64 (v0 * (64 : Int)) ∧ v5 ∧ inR IntKind.i64 (bAt s v8) ∧ inR IntKind.i64 v30 ∧ inR IntKind.i64 v2 ∧ v5 ∧ br v27 v1 (v5 ∧ br v28 v1 (inR IntKind.i64 v22 ∧ inR IntKind.i32 v2 ∧ br (!scalar v2) v1 (inR IntKind.i32 v2 ∧ scalar v2 = true ∧ v17 ∧ br (!decide (List.map (fun (n : Int) => UInt8.ofNat (Int.toNat n)) (Lib.encodeRuneZ v2) = List.take (Int.toNat (4 : Int)) s)) v1 v12))))))))) v1) v1)))))) := by kernel_rfl
set_option maxHeartbeats 4000000 in
theorem of_first (h : ∀ (s : List UInt8), vcP [(21, sp_scalar), (22, sp_bytes)] [] misc Tryz.f55 (.turns 15 5 (fun _ => .nil) .nil) [.one (.str s)] (.tup [(false, [.int .i32 (firstR s)]), (false, [.int .i64 (firstN s)])])) : FnP 55 sp_first := by
  refine fnP_ok (cs := [(21, sp_scalar), (22, sp_bytes)]) (cas := []) (ms := misc) (.cons ok_scalar (.cons ok_bytes .nil)) .nil misc_ok 55 Tryz.f55 (by kernel_rfl) (by kernel_rfl) (by kernel_rfl) (fun | [.one (.str s)] => .turns 15 5 (fun _ => .nil) .nil | _ => .nil) ?_
  intro pvs p r hs hp
  unfold sp_first at hs
  simp only at hs
  split at hs
  · rename_i s
    cases hs
    refine h s
  · cases hs
theorem first_some {s : List UInt8} {r : Int} {k : Nat} (h : Cls s r k) : firstR s = r ∧ firstN s = k := by
  unfold firstR firstN
  rw [step_iff.2 h]
  exact ⟨rfl, rfl⟩
theorem first_zero {s : List UInt8} (h : ∀ r k, ¬ Cls s r k) : firstR s = 0 ∧ firstN s = 0 := by
  unfold firstR firstN
  cases hs : step s with
  | none => exact ⟨rfl, rfl⟩
  | some x => exact absurd (step_iff.1 hs) (h x.1 x.2)
theorem cls_take {s : List UInt8} {r : Int} {k : Nat} (hk : k ≤ s.length) (hr : scalar r = true) : List.map (fun n => UInt8.ofNat (Int.toNat n)) (Lib.encodeRuneZ r) = s.take k ↔ Cls s r k := by
  rw [cls_iff]
  show enc r = s.take k ↔ _
  constructor
  · intro h
    refine ⟨⟨hr, ?_⟩, by rw [h, List.length_take]; omega⟩
    rw [h]; exact List.take_prefix _ _
  · rintro ⟨⟨_, h⟩, rfl⟩
    exact List.prefix_iff_eq_take.1 h
theorem bAt_bt (s : List UInt8) (n : Int) : bAt s n = (bt s n.toNat : Int) := rfl
theorem first_neq {s : List UInt8} {n : Int} {k : Nat} (h : ¬ List.map (fun n => UInt8.ofNat (Int.toNat n)) (Lib.encodeRuneZ n) = s.take k) (hu : ∀ r k', Cls s r k' → r = n ∧ k' = k) : 0 = firstR s ∧ 0 = firstN s := by
  have := first_zero (s := s) fun r k' hc => by
    obtain ⟨rfl, rfl⟩ := hu r k' hc
    obtain ⟨h1, h2⟩ := cls_iff.1 hc
    apply h
    show enc r = _
    rw [h2]
    exact List.prefix_iff_eq_take.1 h1.2
  exact ⟨this.1.symm, this.2.symm⟩
theorem first_take {s : List UInt8} {n : Int} {k : Nat} (h : List.map (fun n => UInt8.ofNat (Int.toNat n)) (Lib.encodeRuneZ n) = s.take k) (hs : scalar n = true) (hk : k ≤ s.length) : n = firstR s ∧ (k : Int) = firstN s := by
  have := first_some ((cls_take hk hs).1 h)
  exact ⟨this.1.symm, this.2.symm⟩
set_option maxHeartbeats 4000000 in
theorem ok_first : FnP 55 sp_first := of_first (by
  intro s
  rw [vc_first]
  have b0 := bt_lt s 0
  have b1 := bt_lt s 1
  have b2 := bt_lt s 2
  have b3 := bt_lt s 3
  have e0 : bAt s 0 = (bt s 0 : Int) := rfl
  have e1 : bAt s 1 = (bt s 1 : Int) := rfl
  have e2 : bAt s (1 + 1) = (bt s 2 : Int) := rfl
  have e3 : bAt s (1 + 1 + 1) = (bt s 3 : Int) := rfl
  have en : decide (s = Array.toList (ByteArray.data { data := #[] })) = decide (s.length = 0) := by
    cases s <;> simp
  rw [en]
  simp only [e0, e1, e2, e3, inR]
  clear e0 e1 e2 e3 en
  repeat' (first | apply And.intro | apply br_of | intro _)
  all_goals (try simp only [decide_eq_true_eq, decide_eq_false_iff_not, Bool.not_eq_true', Bool.not_eq_false', Bool.not_eq_eq_eq_not, Bool.not_true, Bool.not_false] at *)
  all_goals first
    | omega
    | assumption
    | (simp only [scalar, decide_eq_true_eq, decide_eq_false_iff_not] at *; omega)
    | exact (first_take ‹_› (by assumption) (by show (_ : Nat) ≤ _; first | omega | (simp only [Int.toNat]; omega))).1
    | exact (first_take ‹_› (by assumption) (by show (_ : Nat) ≤ _; first | omega | (simp only [Int.toNat]; omega))).2
    | exact (first_neq ‹_› (fun r k' hc => by unfold Cls at hc; constructor <;> first | omega | (simp only [Int.toNat]; omega))).1
    | exact (first_neq ‹_› (fun r k' hc => by unfold Cls at hc; constructor <;> first | omega | (simp only [Int.toNat]; omega))).2
    | exact (first_zero (fun r k' hc => by unfold Cls at hc; (try simp only [scalar, decide_eq_true_eq, decide_eq_false_iff_not] at *); omega)).1.symm
    | exact (first_zero (fun r k' hc => by unfold Cls at hc; (try simp only [scalar, decide_eq_true_eq, decide_eq_false_iff_not] at *); omega)).2.symm
    | skip)
end Go.Proofs.YtglfkihckkjniaaGreatDoor.Vx
