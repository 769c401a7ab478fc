/-
VX, functions 19: the reference's halves. No statement of the seat is proved here.
-/
import Derived.Test.YtglfkihckkjniaaGreatDoorVxF18
set_option maxRecDepth 100000
set_option linter.unusedVariables false
set_option linter.unusedSimpArgs false
namespace Go.Proofs.YtglfkihckkjniaaGreatDoor.Vx
open Go Go.RowKit
/-! ### (Elem).body, plain -/
def Elm.iv (e : Elm) : Iv := if e.pad = true then .padding e.r e.p else .single e.r e.q e.p
def sp_ebody : FSpec := ⟨[], fun | [.agg [.int .i32 r, .bool q, .int .i64 p, .bool d]] => some ([], .one (.bool (isIn bodyC (Elm.iv ⟨r, q, p, d⟩)))) | _ => none⟩
theorem vc_ebody (r : Int) (q : Bool) (p : Int) (d : Bool) : vcP [(100, sp_rmark)] [] misc Tryz.f70 (.nil) [.agg [.int .i32 r, .bool q, .int .i64 p, .bool d]] (.one (.bool (isIn bodyC (Elm.iv ⟨r, q, p, d⟩)))) = (letI v0 := (false = isIn bodyC (Elm.iv { r := r, q := q, p := p, pad := d })); (br (!d) (br (!q) (br (isMark r) (br (r != (59 : Int)) ((r != (42 : Int)) = isIn bodyC (Elm.iv { r := r, q := q, p := p, pad := d })) v0) v0) v0) v0)) := by kernel_rfl
set_option maxHeartbeats 4000000 in
theorem of_ebody (h : ∀ (r : Int) (q : Bool) (p : Int) (d : Bool), vcP [(100, sp_rmark)] [] misc Tryz.f70 (.nil) [.agg [.int .i32 r, .bool q, .int .i64 p, .bool d]] (.one (.bool (isIn bodyC (Elm.iv ⟨r, q, p, d⟩))))) : FnP 70 sp_ebody := by
  refine fnP_ok (cs := [(100, sp_rmark)]) (cas := []) (ms := misc) (.cons ok_rmark .nil) .nil misc_ok 70 Tryz.f70 (by kernel_rfl) (by kernel_rfl) (by kernel_rfl) (fun _ => .nil) ?_
  intro pvs p r hs hp
  unfold sp_ebody at hs
  simp only at hs
  split at hs
  · rename_i r q p d
    cases hs
    refine h r q p d
  · cases hs
def sp_eplain : FSpec := ⟨[], fun | [.agg [.int .i32 r, .bool q, .int .i64 p, .bool d], .one (.int .i32 c)] => some ([], .one (.bool (!d && (!q && (r == c))))) | _ => none⟩
theorem vc_eplain (r : Int) (q : Bool) (p : Int) (d : Bool) (c : Int) : vcP [] [] misc Tryz.f36 (.nil) [.agg [.int .i32 r, .bool q, .int .i64 p, .bool d], .one (.int .i32 c)] (.one (.bool (!d && (!q && (r == c))))) = (br (!d) (br (!q) ((r == c) = (!d && (!q && r == c))) (false = (!d && (!q && r == c)))) (false = (!d && (!q && r == c)))) := by kernel_rfl
set_option maxHeartbeats 4000000 in
theorem of_eplain (h : ∀ (r : Int) (q : Bool) (p : Int) (d : Bool) (c : Int), vcP [] [] misc Tryz.f36 (.nil) [.agg [.int .i32 r, .bool q, .int .i64 p, .bool d], .one (.int .i32 c)] (.one (.bool (!d && (!q && (r == c)))))) : FnP 36 sp_eplain := by
  refine fnP_ok (cs := []) (cas := []) (ms := misc) .nil .nil misc_ok 36 Tryz.f36 (by kernel_rfl) (by kernel_rfl) (by kernel_rfl) (fun _ => .nil) ?_
  intro pvs p r hs hp
  unfold sp_eplain at hs
  simp only at hs
  split at hs
  · rename_i r q p d c
    cases hs
    refine h r q p d c
  · cases hs
theorem body_iv (r : Int) (q : Bool) (p : Int) (d : Bool) : isIn bodyC (Elm.iv ⟨r, q, p, d⟩) = (!d && (!q && (isMark r && (r != 59 && r != 42)))) := by
  cases d with
  | true => rfl
  | false =>
    show (true && (!q && hasR bodyC r)) = _
    cases q with
    | true => rfl
    | false =>
      unfold hasR bodyC isMark
      rw [Bool.eq_iff_iff]
      simp
      omega
theorem plain_iv (e : Elm) (c : UInt8) : isIn [c] e.iv = (!e.pad && (!e.q && (e.r == (c.toNat : Int)))) := by
  unfold Elm.iv
  cases hd : e.pad with
  | true => rfl
  | false =>
    show (true && (!e.q && hasR [c] e.r)) = _
    unfold hasR
    have : ((c.toNat : Int) == e.r) = (e.r == (c.toNat : Int)) := by rw [Bool.eq_iff_iff, beq_iff_eq, beq_iff_eq]; exact eq_comm
    simp [this]
theorem ok_ebody : FnP 70 sp_ebody := of_ebody (by
  intro r q p d
  rw [vc_ebody, body_iv]
  refine br_of (fun h => br_of (fun h => br_of (fun h => br_of (fun h => ?_) fun h => ?_) fun h => ?_) fun h => ?_) fun h => ?_
  all_goals simp_all)
theorem ok_eplain : FnP 36 sp_eplain := of_eplain (by
  intro r q p d c
  rw [vc_eplain]
  cases d <;> cases q <;> simp [br])

/-! ### half -/
structure HF where
  px : List Itm
  sx : List Itm
  n : Num
  w : Int
  r : Int
  k : Int
def hf0 : HF := ⟨[], [], z0, 0, 0, 0⟩
def nP (n : Num) : Pat := ⟨[], [], false, [], [], n, 0, 0, 0⟩
def HF.pcs (h : HF) : List Pc := .rd (.items h.px) :: .rd (.items h.sx) :: ((nP h.n).pcs ++ [.int .i64 h.w, .int .i32 h.r, .int .i64 h.k])
def eL (l : List Elm) : List Iv := l.map Elm.iv
def hN (l : List Elm) : Nat := cutN (eL l)
def hE (l : List Elm) : Nat := cutE (eL l)
def hA (l : List Elm) : Nat := cutA (eL l) (hN l)
def hB (l : List Elm) : Nat := cutB (eL l) (hA l)
def hT (l : List Elm) : List UInt8 := encs ((((eL l).take (hE l)).drop (hN l)).map Iv.sR)
def halfH (l : List Elm) (b : Int) (first : Bool) : HF :=
  if (readT (eL l) b first).2.1 = 0 then ⟨(readT (eL l) b first).1.px, (readT (eL l) b first).1.sx, (readT (eL l) b first).1.n, (readT (eL l) b first).1.sp.w, (readT (eL l) b first).1.sp.r, (hT l).length⟩ else hf0
def posAt (N E n i : Nat) : Int := if i = 0 then 1 else if (i : Int) = (N : Int) - 1 then 2 else if i = E then 3 else if (i : Int) = (n : Int) - 1 then 4 else 0
def spotsE (N E n : Nat) : Nat → List Iv → List Spot
  | _, [] => []
  | i, y :: m => (if y.isP = true then [⟨y.pR, y.pP, posAt N E n i⟩] else []) ++ spotsE N E n (i + 1) m
def hSp (l : List Elm) (first : Bool) : Spot × Int × Int := paddedT (spotsE (hN l) (hE l) l.length 0 (eL l)) first
structure P18 (l : List Elm) (first : Bool) where
  i : Nat
  seen : Option Spot
  le : i ≤ l.length
  ok : ∀ x, seen = some x → x.w ≠ 0 ∧ first = true
  eq : paddedT (seen.toList ++ spotsE (hN l) (hE l) l.length i ((eL l).drop i)) first = hSp l first
def P18.w {l : List Elm} {first : Bool} (x : P18 l first) : Int := match x.seen with | some s => s.w | none => 0
def P18.r {l : List Elm} {first : Bool} (x : P18 l first) : Int := match x.seen with | some s => s.r | none => 0
def P18.k {l : List Elm} {first : Bool} (x : P18 l first) : Int := match x.seen with | some _ => 1 | none => 0
def hfC (px sx : SC) (w r k : Int) : List SC := px :: sx :: (z0.sc' ++ [.int .i64 w, .int .i32 r, .int .i64 k])
def zhc : List SC := hfC .nils .nils 0 0 0
def HNn (l : List Elm) : Type := {n : Nat // n ≤ hN l}
structure HA1 (l : List Elm) where
  e : Nat
  lo : hN l ≤ e
  hi : e ≤ hA l
structure HB1 (l : List Elm) where
  e : Nat
  lo : hB l ≤ e
  hi : e ≤ hB l + runN ((eL l).drop (hB l)) bodyC
def eC (l : List Elm) : Bool := decide (0 < runN ((eL l).drop (hA l)) [69])
def plC (l : List Elm) : Bool := decide (0 < runN ((eL l).drop (hA l + 1)) [43])
def pA (l : List Elm) : List Tok := plainT ((eL l).take (hN l))
def pB (l : List Elm) : List Tok := plainT ((eL l).drop (hE l))
def annH (l : List Elm) (b : Int) (first : Bool) : Ann :=
  .loop 2 (HNn l) (fun n => ⟨[(6, .one (.ptr 16 0)), (7, .one (.ptr 17 0)), (0, .one (.slc 0)), (1, .one (.int .i64 b)), (2, .one (.bool first)), (8, .one (.int .i64 n.1))], [(0, some (.read (.elms l))), (16, some (.cells 75 zhc)), (17, some (.cells 28 [.int .i64 0, .int .i64 0]))], 18⟩) (fun n => l.length - n.1) (fun _ => .nil)
  (.cut 4 Unit (fun _ => ⟨[(6, .one (.ptr 16 0)), (7, .one (.ptr 17 0)), (0, .one (.slc 0)), (1, .one (.int .i64 b)), (2, .one (.bool first)), (8, .one (.int .i64 (hN l)))], [(0, some (.read (.elms l))), (16, some (.cells 75 zhc)), (17, some (.cells 28 [.int .i64 0, .int .i64 0]))], 18⟩)
  (fun _ => .cut 6 (PLift (hN l < l.length)) (fun _ => ⟨[(6, .one (.ptr 16 0)), (7, .one (.ptr 17 0)), (0, .one (.slc 0)), (1, .one (.int .i64 b)), (2, .one (.bool first)), (8, .one (.int .i64 (hN l)))], [(0, some (.read (.elms l))), (16, some (.cells 75 zhc)), (17, some (.cells 28 [.int .i64 0, .int .i64 0]))], 18⟩)
  (fun _ => .loop 7 (HA1 l) (fun x => ⟨[(6, .one (.ptr 16 0)), (7, .one (.ptr 17 0)), (0, .one (.slc 0)), (1, .one (.int .i64 b)), (2, .one (.bool first)), (8, .one (.int .i64 (hN l))), (9, .one (.int .i64 x.e))], [(0, some (.read (.elms l))), (16, some (.cells 75 zhc)), (17, some (.cells 28 [.int .i64 0, .int .i64 0]))], 18⟩) (fun x => l.length - x.e) (fun _ => .nil)
  (.cut 9 Unit (fun _ => ⟨[(6, .one (.ptr 16 0)), (7, .one (.ptr 17 0)), (0, .one (.slc 0)), (1, .one (.int .i64 b)), (2, .one (.bool first)), (8, .one (.int .i64 (hN l))), (9, .one (.int .i64 (hA l)))], [(0, some (.read (.elms l))), (16, some (.cells 75 zhc)), (17, some (.cells 28 [.int .i64 0, .int .i64 0]))], 18⟩)
  (fun _ => .cut 15 Unit (fun _ => ⟨[(6, .one (.ptr 16 0)), (7, .one (.ptr 17 0)), (0, .one (.slc 0)), (1, .one (.int .i64 b)), (2, .one (.bool first)), (8, .one (.int .i64 (hN l))), (9, .one (.int .i64 (hE l)))], [(0, some (.read (.elms l))), (16, some (.cells 75 zhc)), (17, some (.cells 28 [.int .i64 0, .int .i64 0]))], 18⟩)
    (fun _ => .loop 18 (P18 l first) (fun x => ⟨[(6, .one (.ptr 16 0)), (7, .one (.ptr 17 0)), (0, .one (.slc 0)), (1, .one (.int .i64 b)), (2, .one (.bool first)), (8, .one (.int .i64 (hN l))), (9, .one (.int .i64 (hE l))), (10, .one (.ptr 18 0)), (11, .one (.int .i64 x.k)), (12, .one (.int .i64 x.i))], [(0, some (.read (.elms l))), (16, some (.cells 75 zhc)), (17, some (.cells 28 [.int .i64 0, .int .i64 0])), (18, some (.cells 75 (hfC .nils .nils x.w x.r 0)))], 19⟩) (fun x => l.length - x.i)
      (fun x => .cut 21 (PLift ((l.getD x.i default).pad = true ∧ x.i < l.length)) (fun _ => ⟨[(6, .one (.ptr 16 0)), (7, .one (.ptr 17 0)), (0, .one (.slc 0)), (1, .one (.int .i64 b)), (2, .one (.bool first)), (8, .one (.int .i64 (hN l))), (9, .one (.int .i64 (hE l))), (10, .one (.ptr 18 0)), (11, .one (.int .i64 x.k)), (12, .one (.int .i64 x.i))], [(0, some (.read (.elms l))), (16, some (.cells 75 zhc)), (17, some (.cells 28 [.int .i64 0, .int .i64 0])), (18, some (.cells 75 (hfC .nils .nils x.w x.r 0)))], 19⟩)
        (fun _ => .cut 30 Unit (fun _ => ⟨[(6, .one (.ptr 16 0)), (7, .one (.ptr 17 0)), (0, .one (.slc 0)), (1, .one (.int .i64 b)), (2, .one (.bool first)), (8, .one (.int .i64 (hN l))), (9, .one (.int .i64 (hE l))), (10, .one (.ptr 18 0)), (11, .one (.int .i64 x.k)), (12, .one (.int .i64 x.i)), (13, .one (.int .i64 (posAt (hN l) (hE l) l.length x.i)))], [(0, some (.read (.elms l))), (16, some (.cells 75 zhc)), (17, some (.cells 28 [.int .i64 0, .int .i64 0])), (18, some (.cells 75 (hfC .nils .nils x.w x.r 0)))], 19⟩)
          (fun _ => .nil) .nil) .nil)
    (.cut 34 (PLift ((hSp l first).2.1 = 0)) (fun _ => ⟨[(6, .one (.ptr 16 0)), (7, .one (.ptr 17 0)), (0, .one (.slc 0)), (1, .one (.int .i64 b)), (2, .one (.bool first)), (8, .one (.int .i64 (hN l))), (9, .one (.int .i64 (hE l))), (10, .one (.ptr 18 0))], [(0, some (.read (.elms l))), (16, some (.cells 75 zhc)), (17, some (.cells 28 [.int .i64 0, .int .i64 0])), (18, some (.cells 75 (hfC .nils .nils (hSp l first).1.w (hSp l first).1.r 0)))], 19⟩)
    (fun _ => .loop 37 (Upto l) (fun i => ⟨[(6, .one (.ptr 16 0)), (7, .one (.ptr 17 0)), (0, .one (.slc 0)), (1, .one (.int .i64 b)), (2, .one (.bool first)), (8, .one (.int .i64 (hN l))), (9, .one (.int .i64 (hE l))), (10, .one (.ptr 18 0)), (14, .one (.slc 19)), (15, .one (.slc 20)), (16, .one (.str (encs ((((eL l).take (min i.1 (hE l))).drop (hN l)).map Iv.sR)))), (17, .one (.int .i64 i.1))], [(0, some (.read (.elms l))), (16, some (.cells 75 zhc)), (17, some (.cells 28 [.int .i64 0, .int .i64 0])), (18, some (.cells 75 (hfC .nils .nils (hSp l first).1.w (hSp l first).1.r 0))), (19, some (.row 71 (.toks (plainT ((eL l).take (min i.1 (hN l))))))), (20, some (.row 71 (.toks (plainT (((eL l).take i.1).drop (hE l))))))], 21⟩) (fun i => l.length - i.1)
      (fun i => .nil)
    (.cut 45 Unit (fun _ => ⟨[(6, .one (.ptr 16 0)), (7, .one (.ptr 17 0)), (0, .one (.slc 0)), (8, .one (.int .i64 (hN l))), (10, .one (.ptr 18 0)), (14, .one (.slc 19)), (15, .one (.slc 20)), (16, .one (.str (hT l)))], [(0, some (.read (.elms l))), (16, some (.cells 75 zhc)), (17, some (.cells 28 [.int .i64 0, .int .i64 0])), (18, some (.cells 75 (hfC .nils .nils (hSp l first).1.w (hSp l first).1.r 0))), (19, some (.row 71 (.toks (pA l)))), (20, some (.row 71 (.toks (pB l))))], 21⟩)
    (fun _ => .cut 48 (PLift ((itemsR (pA l)).2.1 = 0)) (fun _ => ⟨[(6, .one (.ptr 16 0)), (7, .one (.ptr 17 0)), (0, .one (.slc 0)), (8, .one (.int .i64 (hN l))), (10, .one (.ptr 18 0)), (15, .one (.slc 20)), (16, .one (.str (hT l))), (18, .one (.slc 21)), (19, .one (.ptr 22 0))], [(0, some (.read (.elms l))), (16, some (.cells 75 zhc)), (17, some (.cells 28 [.int .i64 0, .int .i64 0])), (18, some (.cells 75 (hfC .nils .nils (hSp l first).1.w (hSp l first).1.r 0))), (20, some (.row 71 (.toks (pB l)))), (21, some (.read (.items (itemsR (pA l)).1))), (22, some (.cells 28 [.int .i64 (itemsR (pA l)).2.1, .int .i64 (itemsR (pA l)).2.2]))], 23⟩)
    (fun _ => .cut 51 (PLift ((numT (hT l)).2 = 0)) (fun _ => ⟨[(6, .one (.ptr 16 0)), (7, .one (.ptr 17 0)), (0, .one (.slc 0)), (10, .one (.ptr 18 0)), (15, .one (.slc 20)), (16, .one (.str (hT l))), (18, .one (.slc 21)), (19, .one (.ptr 22 0)), (20, .one (.ptr 23 0))], [(0, some (.read (.elms l))), (16, some (.cells 75 zhc)), (17, some (.cells 28 [.int .i64 0, .int .i64 0])), (18, some (.cells 75 (hfC .nils .nils (hSp l first).1.w (hSp l first).1.r 0))), (20, some (.row 71 (.toks (pB l)))), (21, some (.read (.items (itemsR (pA l)).1))), (22, some (.cells 28 [.int .i64 (itemsR (pA l)).2.1, .int .i64 (itemsR (pA l)).2.2])), (23, some (.cells 25 ((nP (numT (hT l)).1).sc 24 25 26 27))), (24, some (.read (.items []))), (25, some (.read (.items []))), (26, some (.read (.items []))), (27, some (.read (.items [])))], 28⟩)
    (fun _ => .cut 54 (PLift ((itemsR (pB l)).2.1 = 0)) (fun _ => ⟨[(6, .one (.ptr 16 0)), (7, .one (.ptr 17 0)), (0, .one (.slc 0)), (10, .one (.ptr 18 0)), (16, .one (.str (hT l))), (18, .one (.slc 21)), (20, .one (.ptr 23 0)), (22, .one (.slc 20))], [(0, some (.read (.elms l))), (16, some (.cells 75 zhc)), (17, some (.cells 28 [.int .i64 0, .int .i64 0])), (18, some (.cells 75 (hfC .nils .nils (hSp l first).1.w (hSp l first).1.r 0))), (20, some (.read (.items (itemsR (pB l)).1))), (21, some (.read (.items (itemsR (pA l)).1))), (23, some (.cells 25 ((nP (numT (hT l)).1).sc 24 25 26 27))), (24, some (.read (.items []))), (25, some (.read (.items []))), (26, some (.read (.items []))), (27, some (.read (.items [])))], 28⟩) (fun _ => .nil) .nil) .nil) .nil) .nil)) .nil))
    (.cut 10 Unit (fun _ => ⟨[(6, .one (.ptr 16 0)), (7, .one (.ptr 17 0)), (0, .one (.slc 0)), (1, .one (.int .i64 b)), (2, .one (.bool first)), (8, .one (.int .i64 (hN l))), (9, .one (.int .i64 (hA l))), (68, .one (.bool (eC l)))], [(0, some (.read (.elms l))), (16, some (.cells 75 zhc)), (17, some (.cells 28 [.int .i64 0, .int .i64 0]))], 18⟩) (fun _ =>
      .cut 12 (PLift (eC l = true)) (fun _ => ⟨[(6, .one (.ptr 16 0)), (7, .one (.ptr 17 0)), (0, .one (.slc 0)), (1, .one (.int .i64 b)), (2, .one (.bool first)), (8, .one (.int .i64 (hN l))), (9, .one (.int .i64 ((hA l : Int) + 1))), (81, .one (.bool (plC l)))], [(0, some (.read (.elms l))), (16, some (.cells 75 zhc)), (17, some (.cells 28 [.int .i64 0, .int .i64 0]))], 18⟩) (fun _ => .nil)
        (.cut 13 (PLift (eC l = true)) (fun _ => ⟨[(6, .one (.ptr 16 0)), (7, .one (.ptr 17 0)), (0, .one (.slc 0)), (1, .one (.int .i64 b)), (2, .one (.bool first)), (8, .one (.int .i64 (hN l))), (9, .one (.int .i64 (hB l)))], [(0, some (.read (.elms l))), (16, some (.cells 75 zhc)), (17, some (.cells 28 [.int .i64 0, .int .i64 0]))], 18⟩) (fun _ => .loop 13 (HB1 l) (fun x => ⟨[(6, .one (.ptr 16 0)), (7, .one (.ptr 17 0)), (0, .one (.slc 0)), (1, .one (.int .i64 b)), (2, .one (.bool first)), (8, .one (.int .i64 (hN l))), (9, .one (.int .i64 x.e))], [(0, some (.read (.elms l))), (16, some (.cells 75 zhc)), (17, some (.cells 28 [.int .i64 0, .int .i64 0]))], 18⟩) (fun x => l.length - x.e) (fun _ => .nil) .nil) .nil)) .nil)) .nil)) .nil) .nil)
def sp_r3half : FSpec := ⟨[], fun | [.one (.rd (.elms l)), .one (.int .i64 b), .one (.bool first)] => some ([EOK (eL l), l.length ≤ 1000000], .tup [(true, (halfH l b first).pcs), (true, [.int .i64 (readT (eL l) b first).2.1, .int .i64 (readT (eL l) b first).2.2])]) | _ => none⟩
theorem vc_r3half (l : List Elm) (b : Int) (first : Bool) : vcP [(70, sp_ebody), (36, sp_eplain), (71, sp_ritems), (18, sp_r3num), (22, sp_bytes)] [] misc Tryz.f37 (annH l b first) [.one (.rd (.elms l)), .one (.int .i64 b), .one (.bool first)] (.tup [(true, (halfH l b first).pcs), (true, [.int .i64 (readT (eL l) b first).2.1, .int .i64 (readT (eL l) b first).2.2])]) = (letI v0 := ([] = HF.px (halfH l b first) ∧ [] = HF.sx (halfH l b first) ∧ [] = Pat.pre (nP (HF.n (halfH l b first))) ∧ [] = Pat.suf (nP (HF.n (halfH l b first))) ∧ false = Pat.hn (nP (HF.n (halfH l b first))) ∧ [] = Pat.npre (nP (HF.n (halfH l b first))) ∧ [] = Pat.nsuf (nP (HF.n (halfH l b first))) ∧ (0 : Int) = Num.mi (Pat.n (nP (HF.n (halfH l b first)))) ∧ (0 : Int) = Num.xi (Pat.n (nP (HF.n (halfH l b first)))) ∧ (0 : Int) = Num.mf (Pat.n (nP (HF.n (halfH l b first)))) ∧ (0 : Int) = Num.xf (Pat.n (nP (HF.n (halfH l b first)))) ∧ (0 : Int) = Num.ms (Pat.n (nP (HF.n (halfH l b first)))) ∧ (0 : Int) = Num.xs (Pat.n (nP (HF.n (halfH l b first)))) ∧ (0 : Int) = Num.pr (Pat.n (nP (HF.n (halfH l b first)))) ∧ (0 : Int) = Num.sc (Pat.n (nP (HF.n (halfH l b first)))) ∧ [] = Num.inc (Pat.n (nP (HF.n (halfH l b first)))) ∧ false = Num.ps (Pat.n (nP (HF.n (halfH l b first)))) ∧ (0 : Int) = Num.me (Pat.n (nP (HF.n (halfH l b first)))) ∧ false = Num.px (Pat.n (nP (HF.n (halfH l b first)))) ∧ (0 : Int) = Pat.pa (nP (HF.n (halfH l b first))) ∧ (0 : Int) = Pat.pd (nP (HF.n (halfH l b first))) ∧ (0 : Int) = Pat.pw (nP (HF.n (halfH l b first))) ∧ (0 : Int) = HF.w (halfH l b first) ∧ (0 : Int) = HF.r (halfH l b first) ∧ (0 : Int) = HF.k (halfH l b first)); letI v1 := (hfC SC.nils SC.nils (Spot.w (hSp l first).1) (Spot.r (hSp l first).1) (0 : Int)); letI v2 := (nP (HF.n (halfH l b first))); letI v3 := ((23 : Nat) + (16 : Nat), some (SB.read (Ls.items []))); letI v4 := (Pat.n (nP (numT (hT l)).1)); letI v5 := ((23 : Nat) + (16 : Nat) + List.length [v3], some (SB.read (Ls.items []))); letI v6 := (Pat.sc (24 : Nat) (25 : Nat) (26 : Nat) (27 : Nat) (nP (numT (hT l)).1)); letI v7 := (List.getD l (Int.toNat ((↑(hA l) : Int) + (1 : Int))) default); letI v8 := (List.getD l (Int.toNat (↑(hA l) : Int)) default); (((∃ (x : HNn l), b = b ∧ first = first ∧ (0 : Int) = (↑(Subtype.val x) : Int) ∧ l = l ∧ EqL zhc [SC.nils, SC.nils, SC.nils, SC.nils, SC.ff, SC.nils, SC.nils, SC.int IntKind.i64 (0 : Int), SC.int IntKind.i64 (0 : Int), SC.int IntKind.i64 (0 : Int), SC.int IntKind.i64 (0 : Int), SC.int IntKind.i64 (0 : Int), SC.int IntKind.i64 (0 : Int), SC.int IntKind.i64 (0 : Int), SC.int IntKind.i64 (0 : Int), SC.str [], SC.ff, SC.int IntKind.i64 (0 : Int), SC.ff, SC.int IntKind.i64 (0 : Int), SC.int IntKind.i32 (0 : Int), SC.int IntKind.i64 (0 : Int), SC.int IntKind.i64 (0 : Int), SC.int IntKind.i32 (0 : Int), SC.int IntKind.i64 (0 : Int)] ∧ (0 : Int) = (0 : Int) ∧ (0 : Int) = (0 : Int)) ∧ ∀ (x : HNn l), br (decide ((↑(Subtype.val x) : Int) < (↑(List.length l) : Int))) (((0 : Int) ≤ (↑(Subtype.val x) : Int) ∧ (↑(Subtype.val x) : Int) < (↑(List.length l) : Int)) ∧ Int.toNat (↑(Subtype.val x) : Int) < List.length l ∧ br (!isIn bodyC (Elm.iv (List.getD l (Int.toNat (↑(Subtype.val x) : Int)) default))) (inR IntKind.i64 ((↑(Subtype.val x) : Int) + (1 : Int)) ∧ ∃ (x' : HNn l), (b = b ∧ first = first ∧ (↑(Subtype.val x) : Int) + (1 : Int) = (↑(Subtype.val x') : Int) ∧ l = l ∧ EqL zhc zhc ∧ (0 : Int) = (0 : Int) ∧ (0 : Int) = (0 : Int)) ∧ List.length l - Subtype.val x' < List.length l - Subtype.val x) (∃ (j : Unit), b = b ∧ first = first ∧ (↑(Subtype.val x) : Int) = (↑(hN l) : Int) ∧ l = l ∧ EqL zhc zhc ∧ (0 : Int) = (0 : Int) ∧ (0 : Int) = (0 : Int))) (∃ (j : Unit), b = b ∧ first = first ∧ (↑(Subtype.val x) : Int) = (↑(hN l) : Int) ∧ l = l ∧ EqL zhc zhc ∧ (0 : Int) = (0 : Int) ∧ (0 : Int) = (0 : Int))) ∧ ∀ (j : Unit), br ((↑(hN l) : Int) == (↑(List.length l) : Int)) (v0 ∧ (4 : Int) = (readT (eL l) b first).2.1 ∧ b = (readT (eL l) b first).2.2) (∃ (j : PLift (hN l < List.length l)), b = b ∧ first = first ∧ (↑(hN l) : Int) = (↑(hN l) : Int) ∧ l = l ∧ EqL zhc zhc ∧ (0 : Int) = (0 : Int) ∧ (0 : Int) = (0 : Int)) ∧ ∀ (j : PLift (hN l < List.length l)), ((∃ (x : HA1 l), b = b ∧ first = first ∧ (↑(hN l) : Int) = (↑(hN l) : Int) ∧ (↑(hN l) : Int) = (↑(HA1.e x) : Int) ∧ l = l ∧ EqL zhc zhc ∧ (0 : Int) = (0 : Int) ∧ (0 : Int) = (0 : Int)) ∧ ∀ (x : HA1 l), br (decide ((↑(HA1.e x) : Int) < (↑(List.length l) : Int))) (((0 : Int) ≤ (↑(HA1.e x) : Int) ∧ (↑(HA1.e x) : Int) < (↑(List.length l) : Int)) ∧ Int.toNat (↑(HA1.e x) : Int) < List.length l ∧ br (isIn bodyC (Elm.iv (List.getD l (Int.toNat (↑(HA1.e x) : Int)) default))) (inR IntKind.i64 ((↑(HA1.e x) : Int) + (1 : Int)) ∧ ∃ (x' : HA1 l), (b = b ∧ first = first ∧ (↑(hN l) : Int) = (↑(hN l) : Int) ∧ (↑(HA1.e x) : Int) + (1 : Int) = (↑(HA1.e x') : Int) ∧ l = l ∧ EqL zhc zhc ∧ (0 : Int) = (0 : Int) ∧ (0 : Int) = (0 : Int)) ∧ List.length l - HA1.e x' < List.length l - HA1.e x) (∃ (j : Unit), b = b ∧ first = first ∧ (↑(hN l) : Int) = (↑(hN l) : Int) ∧ (↑(HA1.e x) : Int) = (↑(hA l) : Int) ∧ l = l ∧ EqL zhc zhc ∧ (0 : Int) = (0 : Int) ∧ (0 : Int) = (0 : Int))) (∃ (j : Unit), b = b ∧ first = first ∧ (↑(hN l) : Int) = (↑(hN l) : Int) ∧ (↑(HA1.e x) : Int) = (↑(hA l) : Int) ∧ l = l ∧ EqL zhc zhc ∧ (0 : Int) = (0 : Int) ∧ (0 : Int) = (0 : Int))) ∧ ∀ (j : Unit), (br (decide ((↑(hA l) : Int) < (↑(List.length l) : Int))) (((0 : Int) ≤ (↑(hA l) : Int) ∧ (↑(hA l) : Int) < (↑(List.length l) : Int)) ∧ Int.toNat (↑(hA l) : Int) < List.length l ∧ ∃ (j : Unit), b = b ∧ first = first ∧ (↑(hN l) : Int) = (↑(hN l) : Int) ∧ (↑(hA l) : Int) = (↑(hA l) : Int) ∧ (!Elm.pad v8 && (!Elm.q v8 && Elm.r v8 == (69 : Int))) = eC l ∧ l = l ∧ EqL zhc zhc ∧ (0 : Int) = (0 : Int) ∧ (0 : Int) = (0 : Int)) (∃ (j : Unit), b = b ∧ first = first ∧ (↑(hN l) : Int) = (↑(hN l) : Int) ∧ (↑(hA l) : Int) = (↑(hA l) : Int) ∧ false = eC l ∧ l = l ∧ EqL zhc zhc ∧ (0 : Int) = (0 : Int) ∧ (0 : Int) = (0 : Int)) ∧ ∀ (j : Unit), br (eC l) (inR IntKind.i64 ((↑(hA l) : Int) + (1 : Int)) ∧ (br (decide ((↑(hA l) : Int) + (1 : Int) < (↑(List.length l) : Int))) (((0 : Int) ≤ (↑(hA l) : Int) + (1 : Int) ∧ (↑(hA l) : Int) + (1 : Int) < (↑(List.length l) : Int)) ∧ Int.toNat ((↑(hA l) : Int) + (1 : Int)) < List.length l ∧ ∃ (j : PLift (eC l = true)), b = b ∧ first = first ∧ (↑(hN l) : Int) = (↑(hN l) : Int) ∧ (↑(hA l) : Int) + (1 : Int) = (↑(hA l) : Int) + (1 : Int) ∧ (!Elm.pad v7 && (!Elm.q v7 && Elm.r v7 == (43 : Int))) = plC l ∧ l = l ∧ EqL zhc zhc ∧ (0 : Int) = (0 : Int) ∧ (0 : Int) = (0 : Int)) (∃ (j : PLift (eC l = true)), b = b ∧ first = first ∧ (↑(hN l) : Int) = (↑(hN l) : Int) ∧ (↑(hA l) : Int) + (1 : Int) = (↑(hA l) : Int) + (1 : Int) ∧ false = plC l ∧ l = l ∧ EqL zhc zhc ∧ (0 : Int) = (0 : Int) ∧ (0 : Int) = (0 : Int)) ∧ ∀ (j : PLift (eC l = true)), br (plC l) (inR IntKind.i64 ((↑(hA l) : Int) + (1 : Int) + (1 : Int)) ∧ ∃ (j : PLift (eC l = true)), b = b ∧ first = first ∧ (↑(hN l) : Int) = (↑(hN l) : Int) ∧ (↑(hA l) : Int) + (1 : Int) + (1 : Int) = (↑(hB l) : Int) ∧ l = l ∧ EqL zhc zhc ∧ (0 : Int) = (0 : Int) ∧ (0 : Int) = (0 : Int)) (∃ (j : PLift (eC l = true)), b = b ∧ first = first ∧ (↑(hN l) : Int) = (↑(hN l) : Int) ∧ (↑(hA l) : Int) + (1 : Int) = (↑(hB l) : Int) ∧ l = l ∧ EqL zhc zhc ∧ (0 : Int) = (0 : Int) ∧ (0 : Int) = (0 : Int))) ∧ ∀ (j : PLift (eC l = true)), (∃ (x : HB1 l), b = b ∧ first = first ∧ (↑(hN l) : Int) = (↑(hN l) : Int) ∧ (↑(hB l) : Int) = (↑(HB1.e x) : Int) ∧ l = l ∧ EqL zhc zhc ∧ (0 : Int) = (0 : Int) ∧ (0 : Int) = (0 : Int)) ∧ ∀ (x : HB1 l), br (decide ((↑(HB1.e x) : Int) < (↑(List.length l) : Int))) (((0 : Int) ≤ (↑(HB1.e x) : Int) ∧ (↑(HB1.e x) : Int) < (↑(List.length l) : Int)) ∧ Int.toNat (↑(HB1.e x) : Int) < List.length l ∧ br (isIn bodyC (Elm.iv (List.getD l (Int.toNat (↑(HB1.e x) : Int)) default))) (inR IntKind.i64 ((↑(HB1.e x) : Int) + (1 : Int)) ∧ ∃ (x' : HB1 l), (b = b ∧ first = first ∧ (↑(hN l) : Int) = (↑(hN l) : Int) ∧ (↑(HB1.e x) : Int) + (1 : Int) = (↑(HB1.e x') : Int) ∧ l = l ∧ EqL zhc zhc ∧ (0 : Int) = (0 : Int) ∧ (0 : Int) = (0 : Int)) ∧ List.length l - HB1.e x' < List.length l - HB1.e x) (∃ (j : Unit), b = b ∧ first = first ∧ (↑(hN l) : Int) = (↑(hN l) : Int) ∧ (↑(HB1.e x) : Int) = (↑(hE l) : Int) ∧ l = l ∧ EqL zhc zhc ∧ (0 : Int) = (0 : Int) ∧ (0 : Int) = (0 : Int))) (∃ (j : Unit), b = b ∧ first = first ∧ (↑(hN l) : Int) = (↑(hN l) : Int) ∧ (↑(HB1.e x) : Int) = (↑(hE l) : Int) ∧ l = l ∧ EqL zhc zhc ∧ (0 : Int) = (0 : Int) ∧ (0 : Int) = (0 : Int))) (∃ (j : Unit), b = b ∧ first = first ∧ (↑(hN l) : Int) = (↑(hN l) : Int) ∧ (↑(hA l) : Int) = (↑(hE l) : Int) ∧ l = l ∧ EqL zhc zhc ∧ (0 : Int) = (0 : Int) ∧ (0 : Int) = (0 : Int))) ∧ ∀ (j : Unit), ((∃ (x : P18 l first), b = b ∧ first = first ∧ (↑(hN l) : Int) = (↑(hN l) : Int) ∧ (↑(hE l) : Int) = (↑(hE l) : Int) ∧ (0 : Int) = P18.k x ∧ (0 : Int) = (↑(P18.i x) : Int) ∧ l = l ∧ EqL zhc zhc ∧ (0 : Int) = (0 : Int) ∧ (0 : Int) = (0 : Int) ∧ EqL (hfC SC.nils SC.nils (P18.w x) (P18.r x) (0 : Int)) [SC.nils, SC.nils, SC.nils, SC.nils, SC.ff, SC.nils, SC.nils, SC.int IntKind.i64 (0 : Int), SC.int IntKind.i64 (0 : Int), SC.int IntKind.i64 (0 : Int), SC.int IntKind.i64 (0 : Int), SC.int IntKind.i64 (0 : Int), SC.int IntKind.i64 (0 : Int), SC.int IntKind.i64 (0 : Int), SC.int IntKind.i64 (0 : Int), SC.str [], SC.ff, SC.int IntKind.i64 (0 : Int), SC.ff, SC.int IntKind.i64 (0 : Int), SC.int IntKind.i32 (0 : Int), SC.int IntKind.i64 (0 : Int), SC.int IntKind.i64 (0 : Int), SC.int IntKind.i32 (0 : Int), SC.int IntKind.i64 (0 : Int)]) ∧ ∀ (x : P18 l first), br (decide ((↑(P18.i x) : Int) < (↑(List.length l) : Int))) ((((0 : Int) ≤ (↑(P18.i x) : Int) ∧ (↑(P18.i x) : Int) < (↑(List.length l) : Int)) ∧ Int.toNat (↑(P18.i x) : Int) < List.length l ∧ br (!Elm.pad (List.getD l (Int.toNat (↑(P18.i x) : Int)) default)) (inR IntKind.i64 ((↑(P18.i x) : Int) + (1 : Int)) ∧ ∃ (x' : P18 l first), (b = b ∧ first = first ∧ (↑(hN l) : Int) = (↑(hN l) : Int) ∧ (↑(hE l) : Int) = (↑(hE l) : Int) ∧ P18.k x = P18.k x' ∧ (↑(P18.i x) : Int) + (1 : Int) = (↑(P18.i x') : Int) ∧ l = l ∧ EqL zhc zhc ∧ (0 : Int) = (0 : Int) ∧ (0 : Int) = (0 : Int) ∧ EqL (hfC SC.nils SC.nils (P18.w x') (P18.r x') (0 : Int)) (hfC SC.nils SC.nils (P18.w x) (P18.r x) (0 : Int))) ∧ List.length l - P18.i x' < List.length l - P18.i x) (∃ (j : PLift (Elm.pad (List.getD l (P18.i x) default) = true ∧ P18.i x < List.length l)), b = b ∧ first = first ∧ (↑(hN l) : Int) = (↑(hN l) : Int) ∧ (↑(hE l) : Int) = (↑(hE l) : Int) ∧ P18.k x = P18.k x ∧ (↑(P18.i x) : Int) = (↑(P18.i x) : Int) ∧ l = l ∧ EqL zhc zhc ∧ (0 : Int) = (0 : Int) ∧ (0 : Int) = (0 : Int) ∧ EqL (hfC SC.nils SC.nils (P18.w x) (P18.r x) (0 : Int)) (hfC SC.nils SC.nils (P18.w x) (P18.r x) (0 : Int)))) ∧ ∀ (j : PLift (Elm.pad (List.getD l (P18.i x) default) = true ∧ P18.i x < List.length l)), br ((↑(P18.i x) : Int) == (0 : Int)) (∃ (j : Unit), b = b ∧ first = first ∧ (↑(hN l) : Int) = (↑(hN l) : Int) ∧ (↑(hE l) : Int) = (↑(hE l) : Int) ∧ P18.k x = P18.k x ∧ (↑(P18.i x) : Int) = (↑(P18.i x) : Int) ∧ (1 : Int) = posAt (hN l) (hE l) (List.length l) (P18.i x) ∧ l = l ∧ EqL zhc zhc ∧ (0 : Int) = (0 : Int) ∧ (0 : Int) = (0 : Int) ∧ EqL (hfC SC.nils SC.nils (P18.w x) (P18.r x) (0 : Int)) (hfC SC.nils SC.nils (P18.w x) (P18.r x) (0 : Int))) (inR IntKind.i64 ((↑(hN l) : Int) - (1 : Int)) ∧ br ((↑(P18.i x) : Int) == (↑(hN l) : Int) - (1 : Int)) (∃ (j : Unit), b = b ∧ first = first ∧ (↑(hN l) : Int) = (↑(hN l) : Int) ∧ (↑(hE l) : Int) = (↑(hE l) : Int) ∧ P18.k x = P18.k x ∧ (↑(P18.i x) : Int) = (↑(P18.i x) : Int) ∧ (2 : Int) = posAt (hN l) (hE l) (List.length l) (P18.i x) ∧ l = l ∧ EqL zhc zhc ∧ (0 : Int) = (0 : Int) ∧ (0 : Int) = (0 : Int) ∧ EqL (hfC SC.nils SC.nils (P18.w x) (P18.r x) (0 : Int)) (hfC SC.nils SC.nils (P18.w x) (P18.r x) (0 : Int))) (br ((↑(P18.i x) : Int) == (↑(hE l) : Int)) (∃ (j : Unit), b = b ∧ first = first ∧ (↑(hN l) : Int) = (↑(hN l) : Int) ∧ (↑(hE l) : Int) = (↑(hE l) : Int) ∧ P18.k x = P18.k x ∧ (↑(P18.i x) : Int) = (↑(P18.i x) : Int) ∧ (3 : Int) = posAt (hN l) (hE l) (List.length l) (P18.i x) ∧ l = l ∧ EqL zhc zhc ∧ (0 : Int) = (0 : Int) ∧ (0 : Int) = (0 : Int) ∧ EqL (hfC SC.nils SC.nils (P18.w x) (P18.r x) (0 : Int)) (hfC SC.nils SC.nils (P18.w x) (P18.r x) (0 : Int))) (inR IntKind.i64 ((↑(List.length l) : Int) - (1 : Int)) ∧ br ((↑(P18.i x) : Int) == (↑(List.length l) : Int) - (1 : Int)) (∃ (j : Unit), b = b ∧ first = first ∧ (↑(hN l) : Int) = (↑(hN l) : Int) ∧ (↑(hE l) : Int) = (↑(hE l) : Int) ∧ P18.k x = P18.k x ∧ (↑(P18.i x) : Int) = (↑(P18.i x) : Int) ∧ (4 : Int) = posAt (hN l) (hE l) (List.length l) (P18.i x) ∧ l = l ∧ EqL zhc zhc ∧ (0 : Int) = (0 : Int) ∧ (0 : Int) = (0 : Int) ∧ EqL (hfC SC.nils SC.nils (P18.w x) (P18.r x) (0 : Int)) (hfC SC.nils SC.nils (P18.w x) (P18.r x) (0 : Int))) (∃ (j : Unit), b = b ∧ first = first ∧ (↑(hN l) : Int) = (↑(hN l) : Int) ∧ (↑(hE l) : Int) = (↑(hE l) : Int) ∧ P18.k x = P18.k x ∧ (↑(P18.i x) : Int) = (↑(P18.i x) : Int) ∧ (0 : Int) = posAt (hN l) (hE l) (List.length l) (P18.i x) ∧ l = l ∧ EqL zhc zhc ∧ (0 : Int) = (0 : Int) ∧ (0 : Int) = (0 : Int) ∧ EqL (hfC SC.nils SC.nils (P18.w x) (P18.r x) (0 : Int)) (hfC SC.nils SC.nils (P18.w x) (P18.r x) (0 : Int)))))) ∧ ∀ (j : Unit), inR IntKind.i64 (P18.k x + (1 : Int)) ∧ br (posAt (hN l) (hE l) (List.length l) (P18.i x) == (0 : Int)) (((0 : Int) ≤ (↑(P18.i x) : Int) ∧ (↑(P18.i x) : Int) < (↑(List.length l) : Int)) ∧ Int.toNat (↑(P18.i x) : Int) < List.length l ∧ v0 ∧ (7 : Int) = (readT (eL l) b first).2.1 ∧ Elm.p (List.getD l (Int.toNat (↑(P18.i x) : Int)) default) = (readT (eL l) b first).2.2) (br (decide (P18.k x + (1 : Int) > (1 : Int))) (((0 : Int) ≤ (↑(P18.i x) : Int) ∧ (↑(P18.i x) : Int) < (↑(List.length l) : Int)) ∧ Int.toNat (↑(P18.i x) : Int) < List.length l ∧ v0 ∧ (7 : Int) = (readT (eL l) b first).2.1 ∧ Elm.p (List.getD l (Int.toNat (↑(P18.i x) : Int)) default) = (readT (eL l) b first).2.2) (br (!first) (((0 : Int) ≤ (↑(P18.i x) : Int) ∧ (↑(P18.i x) : Int) < (↑(List.length l) : Int)) ∧ Int.toNat (↑(P18.i x) : Int) < List.length l ∧ v0 ∧ (7 : Int) = (readT (eL l) b first).2.1 ∧ Elm.p (List.getD l (Int.toNat (↑(P18.i x) : Int)) default) = (readT (eL l) b first).2.2) (((0 : Int) ≤ (↑(P18.i x) : Int) ∧ (↑(P18.i x) : Int) < (↑(List.length l) : Int)) ∧ Int.toNat (↑(P18.i x) : Int) < List.length l ∧ inR IntKind.i64 ((↑(P18.i x) : Int) + (1 : Int)) ∧ ∃ (x' : P18 l first), (b = b ∧ first = first ∧ (↑(hN l) : Int) = (↑(hN l) : Int) ∧ (↑(hE l) : Int) = (↑(hE l) : Int) ∧ P18.k x + (1 : Int) = P18.k x' ∧ (↑(P18.i x) : Int) + (1 : Int) = (↑(P18.i x') : Int) ∧ l = l ∧ EqL zhc zhc ∧ (0 : Int) = (0 : Int) ∧ (0 : Int) = (0 : Int) ∧ EqL (hfC SC.nils SC.nils (P18.w x') (P18.r x') (0 : Int)) [SC.nils, SC.nils, SC.nils, SC.nils, SC.ff, SC.nils, SC.nils, SC.int IntKind.i64 (Num.mi z0), SC.int IntKind.i64 (Num.xi z0), SC.int IntKind.i64 (Num.mf z0), SC.int IntKind.i64 (Num.xf z0), SC.int IntKind.i64 (Num.ms z0), SC.int IntKind.i64 (Num.xs z0), SC.int IntKind.i64 (Num.pr z0), SC.int IntKind.i64 (Num.sc z0), SC.str (Num.inc z0), SC.bool (Num.ps z0), SC.int IntKind.i64 (Num.me z0), SC.bool (Num.px z0), SC.int IntKind.i64 (0 : Int), SC.int IntKind.i32 (0 : Int), SC.int IntKind.i64 (0 : Int), SC.int IntKind.i64 (posAt (hN l) (hE l) (List.length l) (P18.i x)), SC.int IntKind.i32 (Elm.r (List.getD l (Int.toNat (↑(P18.i x) : Int)) default)), SC.int IntKind.i64 (0 : Int)]) ∧ List.length l - P18.i x' < List.length l - P18.i x)))) (∃ (j : PLift (Prod.fst (Prod.snd (hSp l first)) = (0 : Int))), b = b ∧ first = first ∧ (↑(hN l) : Int) = (↑(hN l) : Int) ∧ (↑(hE l) : Int) = (↑(hE l) : Int) ∧ l = l ∧ EqL zhc zhc ∧ (0 : Int) = (0 : Int) ∧ (0 : Int) = (0 : Int) ∧ EqL v1 (hfC SC.nils SC.nils (P18.w x) (P18.r x) (0 : Int)))) ∧ ∀ (j : PLift (Prod.fst (Prod.snd (hSp l first)) = (0 : Int))), ((∃ (x : Upto l), b = b ∧ first = first ∧ (↑(hN l) : Int) = (↑(hN l) : Int) ∧ (↑(hE l) : Int) = (↑(hE l) : Int) ∧ Array.toList #[] = encs (List.map Iv.sR (List.drop (hN l) (List.take (min (Subtype.val x) (hE l)) (eL l)))) ∧ (0 : Int) = (↑(Subtype.val x) : Int) ∧ l = l ∧ EqL zhc zhc ∧ (0 : Int) = (0 : Int) ∧ (0 : Int) = (0 : Int) ∧ EqL v1 v1 ∧ plainT (List.take (min (Subtype.val x) (hN l)) (eL l)) = [] ∧ plainT (List.drop (hE l) (List.take (Subtype.val x) (eL l))) = []) ∧ ∀ (x : Upto l), br (decide ((↑(Subtype.val x) : Int) < (↑(List.length l) : Int))) (((0 : Int) ≤ (↑(Subtype.val x) : Int) ∧ (↑(Subtype.val x) : Int) < (↑(List.length l) : Int)) ∧ Int.toNat (↑(Subtype.val x) : Int) < List.length l ∧ br (Elm.pad (List.getD l (Int.toNat (↑(Subtype.val x) : Int)) default)) (inR IntKind.i64 ((↑(Subtype.val x) : Int) + (1 : Int)) ∧ ∃ (x' : Upto l), (b = b ∧ first = first ∧ (↑(hN l) : Int) = (↑(hN l) : Int) ∧ (↑(hE l) : Int) = (↑(hE l) : Int) ∧ encs (List.map Iv.sR (List.drop (hN l) (List.take (min (Subtype.val x) (hE l)) (eL l)))) = encs (List.map Iv.sR (List.drop (hN l) (List.take (min (Subtype.val x') (hE l)) (eL l)))) ∧ (↑(Subtype.val x) : Int) + (1 : Int) = (↑(Subtype.val x') : Int) ∧ l = l ∧ EqL zhc zhc ∧ (0 : Int) = (0 : Int) ∧ (0 : Int) = (0 : Int) ∧ EqL v1 v1 ∧ plainT (List.take (min (Subtype.val x) (hN l)) (eL l)) = plainT (List.take (min (Subtype.val x') (hN l)) (eL l)) ∧ plainT (List.drop (hE l) (List.take (Subtype.val x) (eL l))) = plainT (List.drop (hE l) (List.take (Subtype.val x') (eL l)))) ∧ List.length l - Subtype.val x' < List.length l - Subtype.val x) (br (decide ((↑(Subtype.val x) : Int) < (↑(hN l) : Int))) (((0 : Int) ≤ (↑(Subtype.val x) : Int) ∧ (↑(Subtype.val x) : Int) < (↑(List.length l) : Int)) ∧ Int.toNat (↑(Subtype.val x) : Int) < List.length l ∧ (List.length (plainT (List.take (min (Subtype.val x) (hN l)) (eL l))) + (1 : Nat)) * (16 : Nat) ≤ (140737488355328 : Nat) ∧ inR IntKind.i64 ((↑(Subtype.val x) : Int) + (1 : Int)) ∧ ∃ (x' : Upto l), (b = b ∧ first = first ∧ (↑(hN l) : Int) = (↑(hN l) : Int) ∧ (↑(hE l) : Int) = (↑(hE l) : Int) ∧ encs (List.map Iv.sR (List.drop (hN l) (List.take (min (Subtype.val x) (hE l)) (eL l)))) = encs (List.map Iv.sR (List.drop (hN l) (List.take (min (Subtype.val x') (hE l)) (eL l)))) ∧ (↑(Subtype.val x) : Int) + (1 : Int) = (↑(Subtype.val x') : Int) ∧ l = l ∧ EqL zhc zhc ∧ (0 : Int) = (0 : Int) ∧ (0 : Int) = (0 : Int) ∧ EqL v1 v1 ∧ plainT (List.take (min (Subtype.val x) (hN l)) (eL l)) ++ [{ r := Elm.r (List.getD l (Int.toNat (↑(Subtype.val x) : Int)) default), q := Elm.q (List.getD l (Int.toNat (↑(Subtype.val x) : Int)) default), p := Elm.p (List.getD l (Int.toNat (↑(Subtype.val x) : Int)) default) }] = plainT (List.take (min (Subtype.val x') (hN l)) (eL l)) ∧ plainT (List.drop (hE l) (List.take (Subtype.val x) (eL l))) = plainT (List.drop (hE l) (List.take (Subtype.val x') (eL l)))) ∧ List.length l - Subtype.val x' < List.length l - Subtype.val x) (br (decide ((↑(Subtype.val x) : Int) < (↑(hE l) : Int))) (((0 : Int) ≤ (↑(Subtype.val x) : Int) ∧ (↑(Subtype.val x) : Int) < (↑(List.length l) : Int)) ∧ Int.toNat (↑(Subtype.val x) : Int) < List.length l ∧ scalar (Elm.r (List.getD l (Int.toNat (↑(Subtype.val x) : Int)) default)) = true ∧ List.length (encs (List.map Iv.sR (List.drop (hN l) (List.take (min (Subtype.val x) (hE l)) (eL l))))) + List.length (List.map (fun (n : Int) => UInt8.ofNat (Int.toNat n)) (Lib.encodeRuneZ (Elm.r (List.getD l (Int.toNat (↑(Subtype.val x) : Int)) default)))) ≤ (9223372036854775807 : Nat) ∧ inR IntKind.i64 ((↑(Subtype.val x) : Int) + (1 : Int)) ∧ ∃ (x' : Upto l), (b = b ∧ first = first ∧ (↑(hN l) : Int) = (↑(hN l) : Int) ∧ (↑(hE l) : Int) = (↑(hE l) : Int) ∧ encs (List.map Iv.sR (List.drop (hN l) (List.take (min (Subtype.val x) (hE l)) (eL l)))) ++ List.map (fun (n : Int) => UInt8.ofNat (Int.toNat n)) (Lib.encodeRuneZ (Elm.r (List.getD l (Int.toNat (↑(Subtype.val x) : Int)) default))) = encs (List.map Iv.sR (List.drop (hN l) (List.take (min (Subtype.val x') (hE l)) (eL l)))) ∧ (↑(Subtype.val x) : Int) + (1 : Int) = (↑(Subtype.val x') : Int) ∧ l = l ∧ EqL zhc zhc ∧ (0 : Int) = (0 : Int) ∧ (0 : Int) = (0 : Int) ∧ EqL v1 v1 ∧ plainT (List.take (min (Subtype.val x) (hN l)) (eL l)) = plainT (List.take (min (Subtype.val x') (hN l)) (eL l)) ∧ plainT (List.drop (hE l) (List.take (Subtype.val x) (eL l))) = plainT (List.drop (hE l) (List.take (Subtype.val x') (eL l)))) ∧ List.length l - Subtype.val x' < List.length l - Subtype.val x) (((0 : Int) ≤ (↑(Subtype.val x) : Int) ∧ (↑(Subtype.val x) : Int) < (↑(List.length l) : Int)) ∧ Int.toNat (↑(Subtype.val x) : Int) < List.length l ∧ (List.length (plainT (List.drop (hE l) (List.take (Subtype.val x) (eL l)))) + (1 : Nat)) * (16 : Nat) ≤ (140737488355328 : Nat) ∧ inR IntKind.i64 ((↑(Subtype.val x) : Int) + (1 : Int)) ∧ ∃ (x' : Upto l), (b = b ∧ first = first ∧ (↑(hN l) : Int) = (↑(hN l) : Int) ∧ (↑(hE l) : Int) = (↑(hE l) : Int) ∧ encs (List.map Iv.sR (List.drop (hN l) (List.take (min (Subtype.val x) (hE l)) (eL l)))) = encs (List.map Iv.sR (List.drop (hN l) (List.take (min (Subtype.val x') (hE l)) (eL l)))) ∧ (↑(Subtype.val x) : Int) + (1 : Int) = (↑(Subtype.val x') : Int) ∧ l = l ∧ EqL zhc zhc ∧ (0 : Int) = (0 : Int) ∧ (0 : Int) = (0 : Int) ∧ EqL v1 v1 ∧ plainT (List.take (min (Subtype.val x) (hN l)) (eL l)) = plainT (List.take (min (Subtype.val x') (hN l)) (eL l)) ∧ plainT (List.drop (hE l) (List.take (Subtype.val x) (eL l))) ++ [{ r := Elm.r (List.getD l (Int.toNat (↑(Subtype.val x) : Int)) default), q := Elm.q (List.getD l (Int.toNat (↑(Subtype.val x) : Int)) default), p := Elm.p (List.getD l (Int.toNat (↑(Subtype.val x) : Int)) default) }] = plainT (List.drop (hE l) (List.take (Subtype.val x') (eL l)))) ∧ List.length l - Subtype.val x' < List.length l - Subtype.val x)))) (∃ (j : Unit), (↑(hN l) : Int) = (↑(hN l) : Int) ∧ encs (List.map Iv.sR (List.drop (hN l) (List.take (min (Subtype.val x) (hE l)) (eL l)))) = hT l ∧ l = l ∧ EqL zhc zhc ∧ (0 : Int) = (0 : Int) ∧ (0 : Int) = (0 : Int) ∧ EqL v1 v1 ∧ plainT (List.take (min (Subtype.val x) (hN l)) (eL l)) = pA l ∧ plainT (List.drop (hE l) (List.take (Subtype.val x) (eL l))) = pB l)) ∧ ∀ (j : Unit), List.length (pA l) ≤ (1000000000 : Nat) ∧ br ((itemsR (pA l)).2.1 != (0 : Int)) (v0 ∧ (itemsR (pA l)).2.1 = (readT (eL l) b first).2.1 ∧ (itemsR (pA l)).2.2 = (readT (eL l) b first).2.2) (∃ (j : PLift (Prod.fst (Prod.snd (itemsR (pA l))) = (0 : Int))), (↑(hN l) : Int) = (↑(hN l) : Int) ∧ hT l = hT l ∧ l = l ∧ EqL zhc zhc ∧ (0 : Int) = (0 : Int) ∧ (0 : Int) = (0 : Int) ∧ EqL v1 v1 ∧ pB l = pB l ∧ (itemsR (pA l)).1 = (itemsR (pA l)).1 ∧ (itemsR (pA l)).2.1 = (itemsR (pA l)).2.1 ∧ (itemsR (pA l)).2.2 = (itemsR (pA l)).2.2) ∧ ∀ (j : PLift (Prod.fst (Prod.snd (itemsR (pA l))) = (0 : Int))), List.length (hT l) ≤ (1000000000 : Nat) ∧ br ((numT (hT l)).2 != (0 : Int)) (((0 : Int) ≤ (↑(hN l) : Int) ∧ (↑(hN l) : Int) < (↑(List.length l) : Int)) ∧ Int.toNat (↑(hN l) : Int) < List.length l ∧ v0 ∧ (numT (hT l)).2 = (readT (eL l) b first).2.1 ∧ Elm.p (List.getD l (Int.toNat (↑(hN l) : Int)) default) = (readT (eL l) b first).2.2) (∃ (j : PLift (Prod.snd (numT (hT l)) = (0 : Int))), hT l = hT l ∧ l = l ∧ EqL zhc zhc ∧ (0 : Int) = (0 : Int) ∧ (0 : Int) = (0 : Int) ∧ EqL v1 v1 ∧ pB l = pB l ∧ (itemsR (pA l)).1 = (itemsR (pA l)).1 ∧ (itemsR (pA l)).2.1 = (itemsR (pA l)).2.1 ∧ (itemsR (pA l)).2.2 = (itemsR (pA l)).2.2 ∧ EqL v6 [SC.slc ((23 : Nat) + (16 : Nat)), SC.slc ((23 : Nat) + (16 : Nat) + List.length [v3]), SC.bool false, SC.slc ((23 : Nat) + (16 : Nat) + List.length [v3] + List.length [v5] + (0 : Nat)), SC.slc ((23 : Nat) + (16 : Nat) + List.length [v3] + List.length [v5] + (0 : Nat) + List.length [((23 : Nat) + (16 : Nat) + List.length [v3] + List.length [v5] + (0 : Nat), some (SB.read (Ls.items [])))]), SC.int IntKind.i64 (Num.mi (numT (hT l)).1), SC.int IntKind.i64 (Num.xi (numT (hT l)).1), SC.int IntKind.i64 (Num.mf (numT (hT l)).1), SC.int IntKind.i64 (Num.xf (numT (hT l)).1), SC.int IntKind.i64 (Num.ms (numT (hT l)).1), SC.int IntKind.i64 (Num.xs (numT (hT l)).1), SC.int IntKind.i64 (Num.pr (numT (hT l)).1), SC.int IntKind.i64 (Num.sc (numT (hT l)).1), SC.str (Num.inc (numT (hT l)).1), SC.bool (Num.ps (numT (hT l)).1), SC.int IntKind.i64 (Num.me (numT (hT l)).1), SC.bool (Num.px (numT (hT l)).1), SC.int IntKind.i64 (0 : Int), SC.int IntKind.i32 (0 : Int), SC.int IntKind.i64 (0 : Int)] ∧ ([] : List Itm) = [] ∧ ([] : List Itm) = [] ∧ ([] : List Itm) = [] ∧ ([] : List Itm) = []) ∧ ∀ (j : PLift (Prod.snd (numT (hT l)) = (0 : Int))), List.length (pB l) ≤ (1000000000 : Nat) ∧ br ((itemsR (pB l)).2.1 != (0 : Int)) (v0 ∧ (itemsR (pB l)).2.1 = (readT (eL l) b first).2.1 ∧ (itemsR (pB l)).2.2 = (readT (eL l) b first).2.2) (∃ (j : PLift (Prod.fst (Prod.snd (itemsR (pB l))) = (0 : Int))), hT l = hT l ∧ l = l ∧ EqL zhc zhc ∧ (0 : Int) = (0 : Int) ∧ (0 : Int) = (0 : Int) ∧ EqL v1 v1 ∧ (itemsR (pB l)).1 = (itemsR (pB l)).1 ∧ (itemsR (pA l)).1 = (itemsR (pA l)).1 ∧ EqL v6 v6 ∧ ([] : List Itm) = [] ∧ ([] : List Itm) = [] ∧ ([] : List Itm) = [] ∧ ([] : List Itm) = []) ∧ ∀ (j : PLift (Prod.fst (Prod.snd (itemsR (pB l))) = (0 : Int))), ((itemsR (pA l)).1 = HF.px (halfH l b first) ∧ (itemsR (pB l)).1 = HF.sx (halfH l b first) ∧ [] = Pat.pre v2 ∧ [] = Pat.suf v2 ∧ Pat.hn (nP (numT (hT l)).1) = Pat.hn v2 ∧ [] = Pat.npre v2 ∧ [] = Pat.nsuf v2 ∧ Num.mi v4 = Num.mi (Pat.n v2) ∧ Num.xi v4 = Num.xi (Pat.n v2) ∧ Num.mf v4 = Num.mf (Pat.n v2) ∧ Num.xf v4 = Num.xf (Pat.n v2) ∧ Num.ms v4 = Num.ms (Pat.n v2) ∧ Num.xs v4 = Num.xs (Pat.n v2) ∧ Num.pr v4 = Num.pr (Pat.n v2) ∧ Num.sc v4 = Num.sc (Pat.n v2) ∧ Num.inc v4 = Num.inc (Pat.n v2) ∧ Num.ps v4 = Num.ps (Pat.n v2) ∧ Num.me v4 = Num.me (Pat.n v2) ∧ Num.px v4 = Num.px (Pat.n v2) ∧ Pat.pa (nP (numT (hT l)).1) = Pat.pa v2 ∧ Pat.pd (nP (numT (hT l)).1) = Pat.pd v2 ∧ Pat.pw (nP (numT (hT l)).1) = Pat.pw v2 ∧ Spot.w (hSp l first).1 = HF.w (halfH l b first) ∧ Spot.r (hSp l first).1 = HF.r (halfH l b first) ∧ (↑(List.length (hT l)) : Int) = HF.k (halfH l b first)) ∧ (0 : Int) = (readT (eL l) b first).2.1 ∧ (0 : Int) = (readT (eL l) b first).2.2)) := by kernel_rfl
set_option maxHeartbeats 4000000 in
theorem of_r3half (h : ∀ (l : List Elm) (b : Int) (first : Bool), (EOK (eL l)) → (l.length ≤ 1000000) → vcP [(70, sp_ebody), (36, sp_eplain), (71, sp_ritems), (18, sp_r3num), (22, sp_bytes)] [] misc Tryz.f37 (annH l b first) [.one (.rd (.elms l)), .one (.int .i64 b), .one (.bool first)] (.tup [(true, (halfH l b first).pcs), (true, [.int .i64 (readT (eL l) b first).2.1, .int .i64 (readT (eL l) b first).2.2])])) : FnP 37 sp_r3half := by
  refine fnP_ok (cs := [(70, sp_ebody), (36, sp_eplain), (71, sp_ritems), (18, sp_r3num), (22, sp_bytes)]) (cas := []) (ms := misc) (.cons ok_ebody (.cons ok_eplain (.cons ok_ritems (.cons ok_r3num (.cons ok_bytes .nil))))) .nil misc_ok 37 Tryz.f37 (by kernel_rfl) (by kernel_rfl) (by kernel_rfl) (fun | [.one (.rd (.elms l)), .one (.int .i64 b), .one (.bool first)] => annH l b first | _ => .nil) ?_
  intro pvs p r hs hp
  unfold sp_r3half at hs
  simp only at hs
  split at hs
  · rename_i l b first
    cases hs
    refine h l b first ?_ ?_
    · exact hp.1
    · exact hp.2
  · cases hs

theorem eL_len (l : List Elm) : (eL l).length = l.length := List.length_map _
theorem eL_get {l : List Elm} {i : Nat} (h : i < l.length) : (eL l).getD i default = (l.getD i default).iv := by
  unfold eL
  rw [List.getD_eq_getElem?_getD, List.getD_eq_getElem?_getD, List.getElem?_map, List.getElem?_eq_getElem h]; rfl
theorem fi_next {α : Type} {P : α → Bool} {L : List α} {n : Nat} (d : α) (h : n ≤ L.findIdx P) (hn : n < L.length) (hp : P (L.getD n d) = false) : n + 1 ≤ L.findIdx P := by
  rw [List.getD_eq_getElem?_getD, List.getElem?_eq_getElem hn] at hp
  rcases Nat.lt_or_eq_of_le h with h | h
  · exact h
  · subst h
    have := List.findIdx_getElem (p := P) (w := hn)
    simp only [Option.getD_some] at hp
    rw [this] at hp; cases hp
theorem fi_here {α : Type} {P : α → Bool} {L : List α} {n : Nat} (d : α) (h : n ≤ L.findIdx P) (hn : n < L.length) (hp : P (L.getD n d) = true) : n = L.findIdx P := by
  rw [List.getD_eq_getElem?_getD, List.getElem?_eq_getElem hn] at hp
  rcases Nat.lt_or_eq_of_le h with h | h
  · have := List.not_of_lt_findIdx (p := P) h
    simp only [Option.getD_some] at hp
    rw [hp] at this; exact absurd this (by decide)
  · exact h
theorem run_next {L : List Iv} {c : List UInt8} {p e : Nat} (lo : p ≤ e) (hi : e ≤ p + runN (L.drop p) c) (hn : e < L.length) (hp : isIn c (L.getD e default) = true) : e + 1 ≤ p + runN (L.drop p) c := by
  have := fi_next (P := fun y => !isIn c y) (L := L.drop p) (n := e - p) default (by show e - p ≤ runN (L.drop p) c; omega) (by rw [List.length_drop]; omega) (by rw [getD_dropA, show p + (e - p) = e by omega, hp]; rfl)
  have : e - p + 1 ≤ runN (L.drop p) c := this
  omega
theorem run_here {L : List Iv} {c : List UInt8} {p e : Nat} (lo : p ≤ e) (hi : e ≤ p + runN (L.drop p) c) (hn : e < L.length) (hp : isIn c (L.getD e default) = false) : e = p + runN (L.drop p) c := by
  have := fi_here (P := fun y => !isIn c y) (L := L.drop p) (n := e - p) default (by show e - p ≤ runN (L.drop p) c; omega) (by rw [List.length_drop]; omega) (by rw [getD_dropA, show p + (e - p) = e by omega, hp]; rfl)
  have : e - p = runN (L.drop p) c := this
  omega
theorem run_pos_iff {L : List Iv} {c : List UInt8} {p : Nat} : 0 < runN (L.drop p) c ↔ p < L.length ∧ isIn c (L.getD p default) = true := by
  constructor
  · intro h
    have h1 := run_pos h
    exact ⟨h1, run_drop (Nat.le_refl _) (by omega)⟩
  · rintro ⟨h1, h2⟩
    have := run_next (L := L) (c := c) (p := p) (Nat.le_refl _) (by omega) h1 h2
    omega
theorem hA_le {l : List Elm} (h : hN l < l.length) : hN l ≤ hA l ∧ hA l ≤ l.length := by
  have := cutA_le (l := eL l) (n := hN l) (by rw [eL_len]; exact h)
  rw [eL_len] at this; exact this
theorem hN_lt {l : List Elm} (h : hN l < l.length) : hN l < hA l := by
  have h0 : cutN (eL l) < (eL l).length := by rw [eL_len]; exact h
  have hp : isIn bodyC ((eL l).getD (hN l) default) = true := by
    have := List.findIdx_getElem (p := isIn bodyC) (xs := eL l) (w := h0)
    show isIn bodyC ((eL l).getD (cutN (eL l)) default) = true
    rw [List.getD_eq_getElem?_getD, List.getElem?_eq_getElem h0]; exact this
  have := run_next (L := eL l) (c := bodyC) (p := hN l) (Nat.le_refl _) (by omega) h0 hp
  unfold hA cutA; omega
theorem hE_eq (l : List Elm) : hE l = if eC l = true then hB l + runN ((eL l).drop (hB l)) bodyC else hA l := by
  unfold hE cutE eC
  show (if 0 < runN ((eL l).drop (hA l)) [69] then _ else _) = _
  by_cases h : 0 < runN ((eL l).drop (hA l)) [69]
  · rw [if_pos h, if_pos (decide_eq_true h)]; rfl
  · rw [if_neg h, if_neg (by rw [decide_eq_false h]; decide)]; rfl
theorem hB_eq (l : List Elm) : hB l = hA l + 1 + if plC l = true then 1 else 0 := by
  unfold hB cutB plC
  by_cases h : 0 < runN ((eL l).drop (hA l + 1)) [43]
  · rw [if_pos (decide_eq_true h)]; omega
  · rw [if_neg (by rw [decide_eq_false h]; decide)]; omega
theorem eC_iff (l : List Elm) : eC l = true ↔ hA l < l.length ∧ isIn [69] ((eL l).getD (hA l) default) = true := by
  unfold eC; rw [decide_eq_true_iff, run_pos_iff, eL_len]
theorem plC_iff (l : List Elm) : plC l = true ↔ hA l + 1 < l.length ∧ isIn [43] ((eL l).getD (hA l + 1) default) = true := by
  unfold plC; rw [decide_eq_true_iff, run_pos_iff, eL_len]
theorem hE_le {l : List Elm} (h : hN l < l.length) : hN l < hE l ∧ hE l ≤ l.length ∧ (eC l = true → hB l ≤ l.length) := by
  have h0 : cutN (eL l) < (eL l).length := by rw [eL_len]; exact h
  have h1 := cutE_le h0
  have h2 := hN_lt h
  have h3 : hE l ≤ l.length := by have := h1.2; rw [eL_len] at this; exact this
  have hb : eC l = true → hB l ≤ l.length := fun hc => by
    have := (eC_iff l).1 hc
    rw [hB_eq]
    split
    · rename_i hp; have := ((plC_iff l).1 hp).1; omega
    · omega
  refine ⟨?_, h3, hb⟩
  rw [hE_eq]
  split
  · rw [hB_eq]; omega
  · exact h2
/-! spots, by their places in the whole -/
theorem spotsE_append (N E n : Nat) : ∀ (a b : List Iv) (i : Nat), spotsE N E n i (a ++ b) = spotsE N E n i a ++ spotsE N E n (i + a.length) b := by
  intro a
  induction a with
  | nil => intro b i; rfl
  | cons y a ih =>
    intro b i
    rw [List.cons_append, spotsE, spotsE, ih, List.append_assoc, List.length_cons]
    congr 3; omega
theorem spotsE_none (N E n : Nat) : ∀ (a : List Iv) (i : Nat), (∀ y ∈ a, y.isP = false) → spotsE N E n i a = [] := by
  intro a
  induction a with
  | nil => intro i _; rfl
  | cons y a ih =>
    intro i h
    rw [spotsE, if_neg (by rw [h y (by simp)]; decide), ih _ fun z hz => h z (by simp [hz])]; rfl
theorem spotsE_spots {N E n : Nat} {M : Nat} {a b : Int} (o : Nat) : ∀ (s : List Iv) (i : Nat), (∀ j, i ≤ j → j < i + s.length → posAt N E n (o + j) = if j = 0 then a else if j + 1 = M then b else 0) → spotsE N E n (o + i) s = spotsN M a b i s := by
  intro s
  induction s with
  | nil => intro i _; rfl
  | cons y s ih =>
    intro i h
    rw [spotsE, spotsN, h i (Nat.le_refl _) (by simp), show o + i + 1 = o + (i + 1) by omega, ih (i + 1) fun j h1 h2 => h j (by omega) (by simp; omega)]
theorem isP_not {y : Iv} (h : y.isS = true) : y.isP = false := by cases y <;> simp_all [Iv.isS, Iv.isP]
theorem spots_all {l : List Elm} (h : hN l < l.length) : spotsE (hN l) (hE l) l.length 0 (eL l) = spotsT ((eL l).take (hN l)) ((eL l).drop (hE l)) := by
  obtain ⟨h1, h2, _⟩ := hE_le h
  have h0 : cutN (eL l) < (eL l).length := by rw [eL_len]; exact h
  have e : eL l = (eL l).take (hN l) ++ (((eL l).take (hE l)).drop (hN l) ++ (eL l).drop (hE l)) := by
    rw [← List.append_assoc]
    conv => lhs; rw [← List.take_append_drop (hE l) (eL l)]
    congr 1
    conv => lhs; rw [← List.take_append_drop (hN l) ((eL l).take (hE l))]
    rw [List.take_take, Nat.min_eq_left (by omega)]
  conv => lhs; rw [e]
  have l1 : ((eL l).take (hN l)).length = hN l := by rw [List.length_take, eL_len]; omega
  have l2 : (((eL l).take (hE l)).drop (hN l)).length = hE l - hN l := by rw [List.length_drop, List.length_take, eL_len]; omega
  have l3 : ((eL l).drop (hE l)).length = l.length - hE l := by rw [List.length_drop, eL_len]
  rw [spotsE_append, spotsE_append, l1, l2, spotsE_none _ _ _ (((eL l).take (hE l)).drop (hN l)) _ ?_, List.nil_append]
  · unfold spotsT
    congr 1
    · rw [l1]
      refine spotsE_spots 0 _ 0 fun j h3 h4 => ?_
      rw [l1] at h4
      unfold posAt
      rw [Nat.zero_add]
      split
      · rfl
      · split
        · rw [if_pos (by omega)]
        · rw [if_neg (by omega), if_neg (by omega), if_neg (by omega)]
    · rw [l3, show 0 + hN l + (hE l - hN l) = hE l + 0 by omega]
      refine spotsE_spots (hE l) _ 0 fun j h3 h4 => ?_
      rw [l3] at h4
      unfold posAt
      rw [if_neg (by omega), if_neg (by omega)]
      by_cases hj : j = 0
      · rw [if_pos (by omega), if_pos hj]
      · rw [if_neg (by omega), if_neg hj]
        by_cases hk : j + 1 = l.length - hE l
        · rw [if_pos (by omega), if_pos hk]
        · rw [if_neg (by omega), if_neg hk]
  · intro y hy
    obtain ⟨i, i1, i2, i3, rfl⟩ := mem_mid default hy
    exact isP_not (cut_all h0 i1 i2)

theorem iv_isP (e : Elm) : e.iv.isP = e.pad := by unfold Elm.iv; cases e.pad <;> rfl
theorem iv_spot {e : Elm} (h : e.pad = true) : e.iv.pR = e.r ∧ e.iv.pP = e.p := by unfold Elm.iv; rw [if_pos h]; exact ⟨rfl, rfl⟩
theorem iv_at (e : Elm) : e.iv.at_ = e.p := by unfold Elm.iv; split <;> rfl
theorem eL_drop {l : List Elm} {i : Nat} (h : i < l.length) : (eL l).drop i = (l.getD i default).iv :: (eL l).drop (i + 1) := by
  rw [drop_next (eL l) default (by rw [eL_len]; exact h), eL_get h]
def P18.zero (l : List Elm) (first : Bool) : P18 l first := ⟨0, none, Nat.zero_le _, fun x hx => (by cases hx), rfl⟩
def P18.on {l : List Elm} {first : Bool} (x : P18 l first) (h : x.i < l.length) (hp : (l.getD x.i default).pad = false) : P18 l first where
  i := x.i + 1
  seen := x.seen
  le := h
  ok := x.ok
  eq := by
    have e := x.eq
    rw [eL_drop h, spotsE, if_neg (by rw [iv_isP, hp]; decide), List.nil_append] at e
    exact e
def P18.add {l : List Elm} {first : Bool} (x : P18 l first) (h : x.i < l.length) (hp : (l.getD x.i default).pad = true) (hs : x.seen = none) (ha : posAt (hN l) (hE l) l.length x.i ≠ 0) (hf : first = true) : P18 l first where
  i := x.i + 1
  seen := some ⟨(l.getD x.i default).r, (l.getD x.i default).p, posAt (hN l) (hE l) l.length x.i⟩
  le := h
  ok := fun y hy => by cases hy; exact ⟨ha, hf⟩
  eq := by
    have e := x.eq
    rw [eL_drop h, spotsE, if_pos (by rw [iv_isP, hp]), hs, (iv_spot hp).1, (iv_spot hp).2] at e
    exact e
theorem P18.bad {l : List Elm} {first : Bool} (x : P18 l first) (h : x.i < l.length) (hp : (l.getD x.i default).pad = true) (hb : posAt (hN l) (hE l) l.length x.i = 0 ∨ x.seen ≠ none ∨ first = false) : hSp l first = (⟨0, 0, 0⟩, 7, (l.getD x.i default).p) := by
  have e := x.eq
  rw [eL_drop h, spotsE, if_pos (by rw [iv_isP, hp]), (iv_spot hp).1, (iv_spot hp).2] at e
  rw [← e]
  cases hs : x.seen with
  | none =>
    show paddedT (_ :: _) first = _
    unfold paddedT
    simp only
    rw [if_pos]
    rcases hb with hb | hb | hb
    · exact .inl hb
    · exact absurd hs hb
    · exact .inr hb
  | some y =>
    obtain ⟨h1, h2⟩ := x.ok y hs
    show paddedT (y :: _ :: _) first = _
    unfold paddedT
    simp only
    rw [if_neg (by rintro (h' | h'); exact h1 h'; rw [h2] at h'; cases h')]
theorem P18.done {l : List Elm} {first : Bool} (x : P18 l first) (h : ¬ x.i < l.length) : (hSp l first).2.1 = 0 ∧ x.w = (hSp l first).1.w ∧ x.r = (hSp l first).1.r := by
  have e := x.eq
  rw [List.drop_of_length_le (by rw [eL_len]; omega)] at e
  unfold P18.w P18.r
  cases hs : x.seen with
  | none => rw [hs] at e; rw [← e]; exact ⟨rfl, rfl, rfl⟩
  | some y =>
    obtain ⟨h1, h2⟩ := x.ok y hs
    rw [hs] at e
    rw [← e]
    show (paddedT [y] first).2.1 = 0 ∧ y.w = (paddedT [y] first).1.w ∧ y.r = (paddedT [y] first).1.r
    unfold paddedT
    simp only
    rw [if_neg (by rintro (h' | h'); exact h1 h'; rw [h2] at h'; cases h')]
    exact ⟨rfl, rfl, rfl⟩
/-! the answer, by its stages -/
theorem half_err {l : List Elm} {b : Int} {first : Bool} {e a : Int} (h : readT (eL l) b first = (pt0, e, a)) (he : e ≠ 0) : halfH l b first = hf0 := by
  unfold halfH; rw [h, if_neg he]
theorem rt_none {l : List Elm} (b : Int) (first : Bool) (h : ¬ hN l < l.length) : readT (eL l) b first = (pt0, 4, b) := by
  unfold readT cutT
  rw [if_neg (show ¬ cutN (eL l) < (eL l).length by rw [eL_len]; exact h), if_pos rfl]
theorem cutT_some {l : List Elm} (b : Int) (h : hN l < l.length) : cutT (eL l) b = (⟨b, (eL l).take (hN l), (eL l).drop (hE l), hT l, ((eL l).getD (hN l) default).at_⟩, true) := by
  unfold cutT
  rw [if_pos (show cutN (eL l) < (eL l).length by rw [eL_len]; exact h)]; rfl
theorem rt_some {l : List Elm} (b : Int) (first : Bool) (h : hN l < l.length) : readT (eL l) b first =
    if (hSp l first).2.1 ≠ 0 then (pt0, (hSp l first).2)
    else if (itemsR (pA l)).2.1 ≠ 0 then (pt0, (itemsR (pA l)).2)
    else if (numT (hT l)).2 ≠ 0 then (pt0, (numT (hT l)).2, (l.getD (hN l) default).p)
    else if (itemsR (pB l)).2.1 ≠ 0 then (pt0, (itemsR (pB l)).2)
    else (⟨(itemsR (pA l)).1, (itemsR (pB l)).1, (numT (hT l)).1, if (hSp l first).1.w ≠ 0 then ((itemsR (pA l)).1.length : Int) + ((itemsR (pB l)).1.length : Int) + ((hT l).length : Int) else 0, (hSp l first).1⟩, 0, 0) := by
  have hs : hSp l first = paddedT (spotsT ((eL l).take (hN l)) ((eL l).drop (hE l))) first := by unfold hSp; rw [spots_all h]
  unfold readT
  rw [cutT_some b h, hs, if_neg (fun h' => Bool.noConfusion h'), eL_get h, iv_at]
  rfl
theorem pl_snoc (a : List Iv) (y : Iv) : plainT (a ++ [y]) = plainT a ++ if y.isS = true then [y.tok] else [] := by
  unfold plainT
  rw [List.filter_append, List.map_append]
  congr 1
  by_cases h : y.isS = true
  · rw [if_pos h, List.filter_cons_of_pos h]; rfl
  · rw [if_neg h, List.filter_cons_of_neg h]; rfl
theorem tk_lt {L : List Iv} {i n : Nat} (h : i < n) (hi : i < L.length) : L.take (min (i + 1) n) = L.take (min i n) ++ [L.getD i default] := by
  rw [Nat.min_eq_left (by omega), Nat.min_eq_left (by omega), take_next L default hi]
theorem tk_ge (L : List Iv) {i n : Nat} (h : n ≤ i) : L.take (min (i + 1) n) = L.take (min i n) := by
  rw [Nat.min_eq_right (by omega), Nat.min_eq_right (by omega)]
theorem dr_lt {L : List Iv} {i E : Nat} (h : i < E) : (L.take (i + 1)).drop E = (L.take i).drop E := by
  rw [List.drop_of_length_le (by rw [List.length_take]; omega), List.drop_of_length_le (by rw [List.length_take]; omega)]
theorem dr_ge {L : List Iv} {i E : Nat} (h : E ≤ i) (hi : i < L.length) : (L.take (i + 1)).drop E = (L.take i).drop E ++ [L.getD i default] := by
  rw [take_next L default hi, List.drop_append_of_le_length (by rw [List.length_take]; omega)]
theorem md_lt {L : List Iv} {i N E : Nat} (h : i < N) : (L.take (min (i + 1) E)).drop N = (L.take (min i E)).drop N := by
  rw [List.drop_of_length_le (by rw [List.length_take]; omega), List.drop_of_length_le (by rw [List.length_take]; omega)]
theorem md_in {L : List Iv} {i N E : Nat} (h : N ≤ i) (h1 : i < E) (hi : i < L.length) : (L.take (min (i + 1) E)).drop N = (L.take (min i E)).drop N ++ [L.getD i default] := by
  rw [tk_lt h1 hi, List.drop_append_of_le_length (by rw [List.length_take]; omega)]
theorem iv_isS (e : Elm) : e.iv.isS = !e.pad := by unfold Elm.iv; cases e.pad <;> rfl
theorem iv_tok {e : Elm} (h : e.pad = false) : e.iv.tok = ⟨e.r, e.q, e.p⟩ ∧ e.iv.sR = e.r := by unfold Elm.iv; rw [h]; exact ⟨rfl, rfl⟩
theorem P18.k_none {l : List Elm} {first : Bool} (x : P18 l first) : x.k = 0 ↔ x.seen = none := by
  unfold P18.k; cases x.seen <;> simp
theorem P18.k_le {l : List Elm} {first : Bool} (x : P18 l first) : x.k = 0 ∨ x.k = 1 := by
  unfold P18.k; cases x.seen <;> simp
theorem posAt_one {N E n i : Nat} (h : i = 0) : (1 : Int) = posAt N E n i := by unfold posAt; rw [if_pos h]
theorem posAt_two {N E n i : Nat} (h : ¬ i = 0) (h1 : (i : Int) = (N : Int) - 1) : (2 : Int) = posAt N E n i := by unfold posAt; rw [if_neg h, if_pos h1]
theorem posAt_three {N E n i : Nat} (h : ¬ i = 0) (h1 : ¬ (i : Int) = (N : Int) - 1) (h2 : i = E) : (3 : Int) = posAt N E n i := by unfold posAt; rw [if_neg h, if_neg h1, if_pos h2]
theorem posAt_four {N E n i : Nat} (h : ¬ i = 0) (h1 : ¬ (i : Int) = (N : Int) - 1) (h2 : ¬ i = E) (h3 : (i : Int) = (n : Int) - 1) : (4 : Int) = posAt N E n i := by unfold posAt; rw [if_neg h, if_neg h1, if_neg h2, if_pos h3]
theorem posAt_none {N E n i : Nat} (h : ¬ i = 0) (h1 : ¬ (i : Int) = (N : Int) - 1) (h2 : ¬ i = E) (h3 : ¬ (i : Int) = (n : Int) - 1) : (0 : Int) = posAt N E n i := by unfold posAt; rw [if_neg h, if_neg h1, if_neg h2, if_neg h3]
set_option maxHeartbeats 8000000 in
theorem ok_r3half : FnP 37 sp_r3half := of_r3half (by
  intro l b first hl hn
  rw [vc_r3half]
  have hNl : hN l ≤ l.length := by have := List.findIdx_le_length (p := isIn bodyC) (xs := eL l); rw [eL_len] at this; exact this
  refine ⟨⟨⟨⟨0, Nat.zero_le _⟩, ?_⟩, fun x => ?_⟩, fun _ => ⟨br_of (fun h => ?_) fun h => ⟨⟨?_⟩, ?_⟩, fun jN => ⟨⟨⟨⟨hN l, Nat.le_refl _, (hA_le jN.down).1⟩, ?_⟩, fun x => ?_⟩, fun _ => ⟨⟨?_, fun _ => br_of (fun h => ?_) fun h => ?_⟩, fun _ => ⟨⟨⟨P18.zero l first, ?_⟩, fun x => ?_⟩, fun j34 => ⟨⟨⟨⟨0, Nat.zero_le _⟩, ?_⟩, fun x => ?_⟩, fun _ => ⟨?_, br_of (fun h => ?_) fun h => ⟨⟨?_⟩, ?_⟩, fun j48 => ⟨?_, br_of (fun h => ?_) fun h => ⟨⟨?_⟩, ?_⟩, fun j51 => ⟨?_, br_of (fun h => ?_) fun h => ⟨⟨?_⟩, ?_⟩, fun j54 => ?_⟩⟩⟩⟩⟩⟩⟩⟩⟩
  · and_intros <;> rfl
  · obtain ⟨n, hx⟩ := x
    dsimp only
    rw [Int.toNat_natCast]
    refine br_of (fun h => ⟨⟨by omega, of_decide_eq_true h⟩, Int.ofNat_lt.1 (of_decide_eq_true h), br_of (fun h1 => ?_) fun h1 => ⟨(), ?_⟩⟩) fun h => ⟨(), ?_⟩
    · have h : n < l.length := Int.ofNat_lt.1 (of_decide_eq_true h)
      have h1 : isIn bodyC ((eL l).getD n default) = false := by rw [eL_get h]; simpa using h1
      have h2 : n + 1 ≤ hN l := fi_next default hx (by rw [eL_len]; exact h) h1
      refine ⟨by simp only [inR]; omega, ⟨n + 1, h2⟩, ?_, by show l.length - (n + 1) < l.length - n; omega⟩
      and_intros <;> rfl
    · have h : n < l.length := Int.ofNat_lt.1 (of_decide_eq_true h)
      have h1 : isIn bodyC ((eL l).getD n default) = true := by rw [eL_get h]; simpa using h1
      have h2 : n = hN l := fi_here default hx (by rw [eL_len]; exact h) h1
      subst h2
      and_intros <;> rfl
    · have h : ¬ n < l.length := fun h' => of_decide_eq_false h (Int.ofNat_lt.2 h')
      have h2 : n = hN l := by omega
      subst h2
      and_intros <;> rfl
  · have h : hN l = l.length := Int.ofNat_inj.1 (eq_of_beq h)
    have hr := rt_none (l := l) b first (by omega)
    rw [half_err hr (by decide), hr]; and_intros <;> rfl
  · have h : ¬ (hN l : Int) = (l.length : Int) := by simpa using h
    omega
  · and_intros <;> rfl
  all_goals have hlt : hN l < l.length := jN.down
  all_goals obtain ⟨e1, e2, e3⟩ := hE_le hlt
  all_goals have ha := hA_le hlt
  · and_intros <;> rfl
  · have hlo := x.lo
    have hhi : x.e ≤ hN l + runN ((eL l).drop (hN l)) bodyC := x.hi
    rw [Int.toNat_natCast]
    refine br_of (fun h => ⟨⟨by omega, of_decide_eq_true h⟩, Int.ofNat_lt.1 (of_decide_eq_true h), br_of (fun h1 => ?_) fun h1 => ⟨(), ?_⟩⟩) fun h => ⟨(), ?_⟩
    · have h : x.e < l.length := Int.ofNat_lt.1 (of_decide_eq_true h)
      rw [← eL_get h] at h1
      have h2 : x.e + 1 ≤ hA l := run_next hlo hhi (by rw [eL_len]; exact h) h1
      refine ⟨by simp only [inR]; omega, ⟨x.e + 1, by omega, h2⟩, ?_, by show l.length - (x.e + 1) < l.length - x.e; omega⟩
      and_intros <;> rfl
    · have h : x.e < l.length := Int.ofNat_lt.1 (of_decide_eq_true h)
      rw [← eL_get h] at h1
      have h2 : x.e = hA l := run_here hlo hhi (by rw [eL_len]; exact h) h1
      rw [h2]
      and_intros <;> rfl
    · have h : ¬ x.e < l.length := fun h' => of_decide_eq_false h (Int.ofNat_lt.2 h')
      have h2 : x.e = hA l := by have := x.hi; omega
      rw [h2]
      and_intros <;> rfl
  · rw [Int.toNat_natCast]
    refine br_of (fun h => ⟨⟨by omega, of_decide_eq_true h⟩, Int.ofNat_lt.1 (of_decide_eq_true h), (), ?_⟩) fun h => ⟨(), ?_⟩
    · have h : hA l < l.length := Int.ofNat_lt.1 (of_decide_eq_true h)
      have e : (!(l.getD (hA l) default).pad && (!(l.getD (hA l) default).q && (l.getD (hA l) default).r == 69)) = eC l := by
        have h1 := plain_iv (l.getD (hA l) default) 69
        rw [show ((69 : UInt8).toNat : Int) = 69 from rfl] at h1
        rw [← h1, ← eL_get h, Bool.eq_iff_iff, eC_iff]
        exact ⟨fun h' => ⟨h, h'⟩, fun h' => h'.2⟩
      and_intros
      all_goals first | rfl | exact e
    · have e : false = eC l := by
        cases he : eC l with
        | false => rfl
        | true => exact absurd (Int.ofNat_lt.2 ((eC_iff l).1 he).1) (of_decide_eq_false h)
      and_intros
      all_goals first | rfl | exact e
  · have hAl := ((eC_iff l).1 h).1
    have hb := e3 h
    have hEq := hE_eq l
    rw [if_pos h] at hEq
    have hBq := hB_eq l
    rw [show ((hA l : Int) + 1).toNat = hA l + 1 by omega]
    refine ⟨by simp only [inR]; omega, ⟨br_of (fun h1 => ⟨⟨by omega, of_decide_eq_true h1⟩, by have := of_decide_eq_true h1; omega, ⟨h⟩, ?_⟩) fun h1 => ⟨⟨h⟩, ?_⟩, fun _ => br_of (fun h1 => ⟨by simp only [inR]; omega, ⟨h⟩, ?_⟩) fun h1 => ⟨⟨h⟩, ?_⟩⟩, fun _ => ⟨⟨⟨hB l, Nat.le_refl _, Nat.le_add_right _ _⟩, ?_⟩, fun x => ?_⟩⟩
    · have h1 : hA l + 1 < l.length := by have := of_decide_eq_true h1; omega
      have e : (!(l.getD (hA l + 1) default).pad && (!(l.getD (hA l + 1) default).q && (l.getD (hA l + 1) default).r == 43)) = plC l := by
        have h2 := plain_iv (l.getD (hA l + 1) default) 43
        rw [show ((43 : UInt8).toNat : Int) = 43 from rfl] at h2
        rw [← h2, ← eL_get h1, Bool.eq_iff_iff, plC_iff]
        exact ⟨fun h' => ⟨h1, h'⟩, fun h' => h'.2⟩
      and_intros
      all_goals first | rfl | exact e
    · have e : false = plC l := by
        cases he : plC l with
        | false => rfl
        | true => exact absurd (by have := ((plC_iff l).1 he).1; omega) (of_decide_eq_false h1)
      and_intros
      all_goals first | rfl | exact e
    · rw [if_pos h1] at hBq
      rw [hBq]
      and_intros <;> rfl
    · rw [if_neg (by rw [h1]; decide)] at hBq
      rw [hBq]
      and_intros <;> rfl
    · and_intros <;> rfl
    · have hlo := x.lo
      have hhi := x.hi
      rw [Int.toNat_natCast]
      refine br_of (fun h => ⟨⟨by omega, of_decide_eq_true h⟩, Int.ofNat_lt.1 (of_decide_eq_true h), br_of (fun h1 => ?_) fun h1 => ⟨(), ?_⟩⟩) fun h => ⟨(), ?_⟩
      · have h : x.e < l.length := Int.ofNat_lt.1 (of_decide_eq_true h)
        rw [← eL_get h] at h1
        have h2 := run_next hlo hhi (by rw [eL_len]; exact h) h1
        refine ⟨by simp only [inR]; omega, ⟨x.e + 1, by omega, h2⟩, ?_, by show l.length - (x.e + 1) < l.length - x.e; omega⟩
        and_intros <;> rfl
      · have h : x.e < l.length := Int.ofNat_lt.1 (of_decide_eq_true h)
        rw [← eL_get h] at h1
        have h2 := run_here hlo hhi (by rw [eL_len]; exact h) h1
        rw [h2, ← hEq]
        and_intros <;> rfl
      · have h : ¬ x.e < l.length := fun h' => of_decide_eq_false h (Int.ofNat_lt.2 h')
        have h2 : x.e = hE l := by omega
        rw [h2]
        and_intros <;> rfl
  · have hEq := hE_eq l
    rw [if_neg (by rw [h]; decide)] at hEq
    rw [hEq]
    exact ⟨(), by and_intros <;> rfl⟩
  · and_intros <;> rfl
  · have hk := x.k_le
    refine br_of (fun h => ⟨⟨⟨by omega, of_decide_eq_true h⟩, by have := of_decide_eq_true h; omega, br_of (fun h1 => ?_) fun h1 => ⟨⟨?_, ?_⟩, ?_⟩⟩, fun jp => ?_⟩) fun h => ?_
    all_goals first | have h : x.i < l.length := Int.ofNat_lt.1 (of_decide_eq_true h)
                    | have h : ¬ x.i < l.length := fun h' => of_decide_eq_false h (Int.ofNat_lt.2 h')
    · rw [Int.toNat_natCast] at h1
      have h1 : (l.getD x.i default).pad = false := by simpa using h1
      refine ⟨by simp only [inR]; omega, x.on h h1, ?_, by show l.length - (x.i + 1) < l.length - x.i; omega⟩
      and_intros <;> rfl
    · rw [Int.toNat_natCast] at h1
      simpa using h1
    · exact h
    · and_intros <;> rfl
    · have hp := jp.down.1
      have hr := rt_some b first hlt
      have bad : posAt (hN l) (hE l) l.length x.i = 0 ∨ x.seen ≠ none ∨ first = false → readT (eL l) b first = (pt0, 7, (l.getD x.i default).p) := fun hb => by
        rw [hr, x.bad h hp hb, if_pos (show (7 : Int) ≠ 0 by decide)]
      rw [Int.toNat_natCast]
      refine ⟨br_of (fun h1 => ⟨(), ?_⟩) fun h1 => ⟨by simp only [inR]; omega, br_of (fun h2 => ⟨(), ?_⟩) fun h2 => br_of (fun h3 => ⟨(), ?_⟩) fun h3 => ⟨by simp only [inR]; omega, br_of (fun h4 => ⟨(), ?_⟩) fun h4 => ⟨(), ?_⟩⟩⟩, fun _ => ⟨by simp only [inR]; omega, br_of (fun h1 => ⟨⟨by omega, by omega⟩, h, ?_⟩) fun h1 => br_of (fun h2 => ⟨⟨by omega, by omega⟩, h, ?_⟩) fun h2 => br_of (fun h3 => ⟨⟨by omega, by omega⟩, h, ?_⟩) fun h3 => ⟨⟨by omega, by omega⟩, h, by simp only [inR]; omega, ?_⟩⟩⟩
      · have e := posAt_one (N := hN l) (E := hE l) (n := l.length) (i := x.i) (by have := eq_of_beq h1; omega)
        and_intros
        all_goals first | rfl | exact e
      · have g1 : ¬ (x.i : Int) = 0 := by simpa using h1
        have e := posAt_two (N := hN l) (E := hE l) (n := l.length) (i := x.i) (by omega) (eq_of_beq h2)
        and_intros
        all_goals first | rfl | exact e
      · have g1 : ¬ (x.i : Int) = 0 := by simpa using h1
        have g2 : ¬ (x.i : Int) = (hN l : Int) - 1 := by simpa using h2
        have e := posAt_three (N := hN l) (E := hE l) (n := l.length) (i := x.i) (by omega) g2 (by have := eq_of_beq h3; omega)
        and_intros
        all_goals first | rfl | exact e
      · have g1 : ¬ (x.i : Int) = 0 := by simpa using h1
        have g2 : ¬ (x.i : Int) = (hN l : Int) - 1 := by simpa using h2
        have g3 : ¬ (x.i : Int) = (hE l : Int) := by intro h'; rw [h'] at h3; simp at h3
        have e := posAt_four (N := hN l) (E := hE l) (n := l.length) (i := x.i) (by omega) g2 (by omega) (eq_of_beq h4)
        and_intros
        all_goals first | rfl | exact e
      · have g1 : ¬ (x.i : Int) = 0 := by simpa using h1
        have g2 : ¬ (x.i : Int) = (hN l : Int) - 1 := by simpa using h2
        have g3 : ¬ (x.i : Int) = (hE l : Int) := by intro h'; rw [h'] at h3; simp at h3
        have g4 : ¬ (x.i : Int) = (l.length : Int) - 1 := by simpa using h4
        have e := posAt_none (N := hN l) (E := hE l) (n := l.length) (i := x.i) (by omega) g2 (by omega) g4
        and_intros
        all_goals first | rfl | exact e
      · have hE := bad (.inl (eq_of_beq h1))
        rw [half_err hE (by decide), hE]; and_intros <;> rfl
      · have hE := bad (.inr (.inl fun hs => by have := x.k_none.2 hs; have := of_decide_eq_true h2; omega))
        rw [half_err hE (by decide), hE]; and_intros <;> rfl
      · have hE := bad (.inr (.inr (by simpa using h3)))
        rw [half_err hE (by decide), hE]; and_intros <;> rfl
      · have g1 : posAt (hN l) (hE l) l.length x.i ≠ 0 := by simpa using h1
        have g2 : x.seen = none := x.k_none.1 (by have := of_decide_eq_false h2; omega)
        have g3 : first = true := by simpa using h3
        have ek : x.k = 0 := x.k_none.2 g2
        refine ⟨x.add h hp g2 g1 g3, ?_, by show l.length - (x.i + 1) < l.length - x.i; omega⟩
        rw [ek]
        and_intros <;> rfl
    · obtain ⟨d1, d2, d3⟩ := x.done h
      refine ⟨⟨d1⟩, ?_⟩
      rw [d2, d3]
      and_intros <;> rfl
  all_goals have c34 := j34.down
  · have z1 : plainT (List.take (min 0 (hN l)) (eL l)) = [] := by rw [Nat.zero_min]; rfl
    have z2 : plainT (List.drop (hE l) (List.take 0 (eL l))) = [] := by rw [List.take_zero, List.drop_nil]; rfl
    have z3 : Array.toList (#[] : Array UInt8) = encs (List.map Iv.sR (List.drop (hN l) (List.take (min 0 (hE l)) (eL l)))) := by rw [Nat.zero_min, List.take_zero, List.drop_nil]; rfl
    and_intros
    all_goals first | rfl | exact z1 | exact z2 | exact z3
  · have hx := x.2
    have p1 := plainT_len (List.take (min x.1 (hN l)) (eL l))
    have p2 := plainT_len (List.drop (hE l) (List.take x.1 (eL l)))
    have p3 := (encs_len (List.map Iv.sR (List.drop (hN l) (List.take (min x.1 (hE l)) (eL l))))).2
    rw [List.length_map, List.length_drop, List.length_take, eL_len] at p3
    rw [List.length_take, eL_len] at p1
    rw [List.length_drop, List.length_take, eL_len] at p2
    refine br_of (fun h => ?_) fun h => ⟨(), ?_⟩
    · have h : x.1 < l.length := Int.ofNat_lt.1 (of_decide_eq_true h)
      have hL : x.1 < (eL l).length := by rw [eL_len]; exact h
      have hg := eL_get h
      rw [Int.toNat_natCast]
      refine ⟨⟨by omega, by omega⟩, h, br_of (fun h1 => ⟨by simp only [inR]; omega, ⟨x.1 + 1, h⟩, ?_, by show l.length - (x.1 + 1) < l.length - x.1; omega⟩) fun h1 => br_of (fun h2 => ⟨⟨by omega, by omega⟩, h, by omega, by simp only [inR]; omega, ⟨x.1 + 1, h⟩, ?_, by show l.length - (x.1 + 1) < l.length - x.1; omega⟩) fun h2 => br_of (fun h3 => ⟨⟨by omega, by omega⟩, h, ?_, ?_, by simp only [inR]; omega, ⟨x.1 + 1, h⟩, ?_, by show l.length - (x.1 + 1) < l.length - x.1; omega⟩) fun h3 => ⟨⟨by omega, by omega⟩, h, by omega, by simp only [inR]; omega, ⟨x.1 + 1, h⟩, ?_, by show l.length - (x.1 + 1) < l.length - x.1; omega⟩⟩
      all_goals try have h2 : x.1 < hN l := Int.ofNat_lt.1 (of_decide_eq_true h2)
      all_goals try have h2 : ¬ x.1 < hN l := fun h' => of_decide_eq_false h2 (Int.ofNat_lt.2 h')
      all_goals try have h3 : x.1 < hE l := Int.ofNat_lt.1 (of_decide_eq_true h3)
      all_goals try have h3 : ¬ x.1 < hE l := fun h' => of_decide_eq_false h3 (Int.ofNat_lt.2 h')
      · have hs : (l.getD x.1 default).iv.isS = false := by rw [iv_isS, h1]; rfl
        have out : x.1 < hN l ∨ hE l ≤ x.1 := by
          by_cases ho : x.1 < hN l ∨ hE l ≤ x.1
          · exact ho
          · exfalso
            have := cut_all (l := eL l) (show cutN (eL l) < (eL l).length by rw [eL_len]; exact hlt) (i := x.1) (show hN l ≤ x.1 by omega) (show x.1 < hE l by omega)
            rw [hg, hs] at this; cases this
        have q1 : plainT (List.take (min x.1 (hN l)) (eL l)) = plainT (List.take (min (x.1 + 1) (hN l)) (eL l)) := by
          by_cases ho : x.1 < hN l
          · rw [tk_lt ho hL, pl_snoc, hg, if_neg (by rw [hs]; decide), List.append_nil]
          · rw [tk_ge (eL l) (by omega)]
        have q2 : plainT (List.drop (hE l) (List.take x.1 (eL l))) = plainT (List.drop (hE l) (List.take (x.1 + 1) (eL l))) := by
          by_cases ho : x.1 < hE l
          · rw [dr_lt ho]
          · rw [dr_ge (by omega) hL, pl_snoc, hg, if_neg (by rw [hs]; decide), List.append_nil]
        have q3 : encs (List.map Iv.sR (List.drop (hN l) (List.take (min x.1 (hE l)) (eL l)))) = encs (List.map Iv.sR (List.drop (hN l) (List.take (min (x.1 + 1) (hE l)) (eL l)))) := by
          rcases out with ho | ho
          · rw [md_lt ho]
          · rw [tk_ge (eL l) ho]
        and_intros
        all_goals first | rfl | exact q1 | exact q2 | exact q3
      all_goals have hs : (l.getD x.1 default).iv.isS = true := by rw [iv_isS, h1]; rfl
      all_goals obtain ⟨t1, t2⟩ := iv_tok h1
      · have q1 : plainT (List.take (min x.1 (hN l)) (eL l)) ++ [⟨(l.getD x.1 default).r, (l.getD x.1 default).q, (l.getD x.1 default).p⟩] = plainT (List.take (min (x.1 + 1) (hN l)) (eL l)) := by
          rw [tk_lt h2 hL, pl_snoc, hg, if_pos hs, t1]
        have q2 : plainT (List.drop (hE l) (List.take x.1 (eL l))) = plainT (List.drop (hE l) (List.take (x.1 + 1) (eL l))) := by rw [dr_lt (by omega)]
        have q3 : encs (List.map Iv.sR (List.drop (hN l) (List.take (min x.1 (hE l)) (eL l)))) = encs (List.map Iv.sR (List.drop (hN l) (List.take (min (x.1 + 1) (hE l)) (eL l)))) := by rw [md_lt h2]
        and_intros
        all_goals first | rfl | exact q1 | exact q2 | exact q3
      · have := (hl _ (show (eL l).getD x.1 default ∈ eL l from getD_mem' hL)).2 (by rw [hg]; exact hs)
        rw [hg, t2] at this; exact this
      · have := (enc_len (l.getD x.1 default).r).2
        show _ + (enc (l.getD x.1 default).r).length ≤ _
        omega
      · have q1 : plainT (List.take (min x.1 (hN l)) (eL l)) = plainT (List.take (min (x.1 + 1) (hN l)) (eL l)) := by rw [tk_ge (eL l) (by omega)]
        have q2 : plainT (List.drop (hE l) (List.take x.1 (eL l))) = plainT (List.drop (hE l) (List.take (x.1 + 1) (eL l))) := by rw [dr_lt h3]
        have q3 : encs (List.map Iv.sR (List.drop (hN l) (List.take (min x.1 (hE l)) (eL l)))) ++ enc (l.getD x.1 default).r = encs (List.map Iv.sR (List.drop (hN l) (List.take (min (x.1 + 1) (hE l)) (eL l)))) := by
          rw [md_in (by omega) h3 hL, List.map_append, encs_append, hg]
          show _ = _ ++ encs [(l.getD x.1 default).iv.sR]
          rw [encs_one, t2]
        and_intros
        all_goals first | rfl | exact q1 | exact q2 | exact q3
      · have q1 : plainT (List.take (min x.1 (hN l)) (eL l)) = plainT (List.take (min (x.1 + 1) (hN l)) (eL l)) := by rw [tk_ge (eL l) (by omega)]
        have q2 : plainT (List.drop (hE l) (List.take x.1 (eL l))) ++ [⟨(l.getD x.1 default).r, (l.getD x.1 default).q, (l.getD x.1 default).p⟩] = plainT (List.drop (hE l) (List.take (x.1 + 1) (eL l))) := by
          rw [dr_ge (by omega) hL, pl_snoc, hg, if_pos hs, t1]
        have q3 : encs (List.map Iv.sR (List.drop (hN l) (List.take (min x.1 (hE l)) (eL l)))) = encs (List.map Iv.sR (List.drop (hN l) (List.take (min (x.1 + 1) (hE l)) (eL l)))) := by rw [tk_ge (eL l) (by omega)]
        and_intros
        all_goals first | rfl | exact q1 | exact q2 | exact q3
    · have h : ¬ x.1 < l.length := fun h' => of_decide_eq_false h (Int.ofNat_lt.2 h')
      have q1 : plainT (List.take (min x.1 (hN l)) (eL l)) = pA l := by rw [Nat.min_eq_right (by omega)]; rfl
      have q2 : plainT (List.drop (hE l) (List.take x.1 (eL l))) = pB l := by rw [List.take_of_length_le (by rw [eL_len]; omega)]; rfl
      have q3 : encs (List.map Iv.sR (List.drop (hN l) (List.take (min x.1 (hE l)) (eL l)))) = hT l := by rw [Nat.min_eq_right (by omega)]; rfl
      and_intros
      all_goals first | rfl | exact q1 | exact q2 | exact q3
  all_goals have hr := rt_some b first hlt
  all_goals rw [if_neg (fun h' => h' c34)] at hr
  · have := plainT_len ((eL l).take (hN l))
    rw [List.length_take, eL_len] at this
    show (plainT _).length ≤ _; omega
  · have h : (itemsR (pA l)).2.1 ≠ 0 := by simpa using h
    rw [if_pos h] at hr
    rw [half_err (e := (itemsR (pA l)).2.1) (a := (itemsR (pA l)).2.2) hr h, hr]; and_intros <;> rfl
  · simpa using h
  · and_intros <;> rfl
  all_goals have c48 := j48.down
  all_goals rw [if_neg (fun h' => h' c48)] at hr
  · have := (encs_len (List.map Iv.sR (((eL l).take (hE l)).drop (hN l)))).2
    rw [List.length_map, List.length_drop, List.length_take, eL_len] at this
    show (encs _).length ≤ _; omega
  · have h : (numT (hT l)).2 ≠ 0 := by simpa using h
    rw [if_pos h] at hr
    rw [half_err hr h, hr, Int.toNat_natCast]
    exact ⟨⟨by omega, by omega⟩, hlt, by and_intros <;> rfl⟩
  · simpa using h
  · and_intros <;> rfl
  all_goals have c51 := j51.down
  all_goals rw [if_neg (fun h' => h' c51)] at hr
  · have := plainT_len ((eL l).drop (hE l))
    rw [List.length_drop, eL_len] at this
    show (plainT _).length ≤ _; omega
  · have h : (itemsR (pB l)).2.1 ≠ 0 := by simpa using h
    rw [if_pos h] at hr
    rw [half_err (e := (itemsR (pB l)).2.1) (a := (itemsR (pB l)).2.2) hr h, hr]; and_intros <;> rfl
  · simpa using h
  · and_intros <;> rfl
  · have c54 := j54.down
    rw [if_neg (fun h' => h' c54)] at hr
    have hh : halfH l b first = ⟨(itemsR (pA l)).1, (itemsR (pB l)).1, (numT (hT l)).1, (hSp l first).1.w, (hSp l first).1.r, (hT l).length⟩ := by
      unfold halfH; rw [hr]; rfl
    rw [hh, hr]
    and_intros <;> rfl)
end Go.Proofs.YtglfkihckkjniaaGreatDoor.Vx
