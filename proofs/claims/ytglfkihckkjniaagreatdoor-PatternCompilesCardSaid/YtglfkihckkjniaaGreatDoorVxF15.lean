/-
VX, functions 15: pattern.Compile. No statement of the seat is proved here.
-/
import Derived.Test.YtglfkihckkjniaaGreatDoorVxM2
set_option maxRecDepth 100000
set_option linter.unusedVariables false
set_option linter.unusedSimpArgs false
namespace Go.Proofs.YtglfkihckkjniaaGreatDoor.Vx
open Go Go.RowKit
def Pat.sc (a b c d : Nat) (p : Pat) : List SC := [.slc a, .slc b, .bool p.hn, .slc c, .slc d, .int .i64 p.n.mi, .int .i64 p.n.xi, .int .i64 p.n.mf, .int .i64 p.n.xf, .int .i64 p.n.ms, .int .i64 p.n.xs, .int .i64 p.n.pr, .int .i64 p.n.sc, .str p.n.inc, .bool p.n.ps, .int .i64 p.n.me, .bool p.n.px, .int .i64 p.pa, .int .i32 p.pd, .int .i64 p.pw]
def PT.sc (a b c d e f : Nat) (t : PT) : List SC := .slc a :: .slc b :: ((⟨[], [], false, [], [], t.n, 0, 0, t.w⟩ : Pat).sc c d e f ++ [.int .i32 t.sp.r, .int .i64 t.sp.p, .int .i64 t.sp.w])
def cmL (s : List UInt8) : List Iv := (elemsR (scanT s).1).1
def rd1 (s : List UInt8) : PT × Int × Int := readT ((cmL s).take (aheadN (cmL s))) 0 true
def rd2 (s : List UInt8) : PT × Int × Int := readT (behindL (cmL s)) (((cmL s).getD (aheadN (cmL s)) default).at_ + 1) false
def cmP (s : List UInt8) : Pat := madeT (rd1 s).1.pa
def cmQ (s : List UInt8) : Pat := { cmP s with hn := true, npre := (rd2 s).1.px, nsuf := (rd2 s).1.sx }
/-- A pattern that is made, ahead of the last question. -/
structure CO (s : List UInt8) where
  p : Pat
  few : p.pre.length + p.suf.length + p.npre.length + p.nsuf.length ≤ 1000000000
  eq : compileT s = if bothH p = true then (p0, 6, 0) else (p, 0, 0)
structure C7 (s : List UInt8) : Prop where
  h1 : (scanT s).2.1 = 0
  h2 : (elemsR (scanT s).1).2.1 = 0
structure C12 (s : List UInt8) : Prop extends C7 s where
  h3 : ¬ aheadN (behindL (cmL s)) < (behindL (cmL s)).length
structure C16 (s : List UInt8) : Prop extends C12 s where
  h4 : (rd1 s).2.1 = 0
structure C18 (s : List UInt8) : Prop extends C16 s where
  h5 : aheadN (cmL s) < (cmL s).length
def ann15 (s : List UInt8) : Ann :=
  .cut 7 (PLift (C7 s)) (fun _ => ⟨[(2, .one (.ptr 16 0)), (3, .one (.ptr 17 0)), (5, .one (.ptr 18 0)), (6, .one (.slc 19))], [(16, some (.cells 25 z0.sc')), (17, some (.cells 28 [.int .i64 0, .int .i64 0])), (18, some (.cells 28 [.int .i64 (elemsR (scanT s).1).2.1, .int .i64 (elemsR (scanT s).1).2.2])), (19, some (.read (.ivs (cmL s))))], 20⟩)
  (fun _ => .cut 9 (PLift (C7 s)) (fun _ => ⟨[(2, .one (.ptr 16 0)), (3, .one (.ptr 17 0)), (5, .one (.ptr 18 0)), (6, .one (.slc 19)), (7, .one (.int .i64 (aheadN (cmL s)))), (8, .one (.slc 20))], [(16, some (.cells 25 z0.sc')), (17, some (.cells 28 [.int .i64 0, .int .i64 0])), (18, some (.cells 28 [.int .i64 (elemsR (scanT s).1).2.1, .int .i64 (elemsR (scanT s).1).2.2])), (19, some (.read (.ivs (cmL s)))), (20, some (.read (.ivs (behindL (cmL s)))))], 21⟩)
  (fun _ => .cut 12 (PLift (C12 s)) (fun _ => ⟨[(2, .one (.ptr 16 0)), (3, .one (.ptr 17 0)), (5, .one (.ptr 18 0)), (6, .one (.slc 19)), (7, .one (.int .i64 (aheadN (cmL s)))), (8, .one (.slc 20))], [(16, some (.cells 25 z0.sc')), (17, some (.cells 28 [.int .i64 0, .int .i64 0])), (18, some (.cells 28 [.int .i64 (elemsR (scanT s).1).2.1, .int .i64 (elemsR (scanT s).1).2.2])), (19, some (.read (.ivs (cmL s)))), (20, some (.read (.ivs (behindL (cmL s)))))], 21⟩)
  (fun _ => .cut 13 (PLift (C12 s)) (fun _ => ⟨[(2, .one (.ptr 16 0)), (3, .one (.ptr 17 0)), (5, .one (.ptr 18 0)), (6, .one (.slc 19)), (7, .one (.int .i64 (aheadN (cmL s)))), (8, .one (.slc 20)), (10, .one (.ptr 21 0))], [(16, some (.cells 25 z0.sc')), (17, some (.cells 28 [.int .i64 0, .int .i64 0])), (18, some (.cells 28 [.int .i64 (rd1 s).2.1, .int .i64 (rd1 s).2.2])), (19, some (.read (.ivs (cmL s)))), (20, some (.read (.ivs (behindL (cmL s))))), (21, some (.cells 64 ((rd1 s).1.sc 22 23 24 25 26 27))), (22, some (.read (.items (rd1 s).1.px))), (23, some (.read (.items (rd1 s).1.sx))), (24, some (.read (.items []))), (25, some (.read (.items []))), (26, some (.read (.items []))), (27, some (.read (.items [])))], 28⟩)
  (fun _ => .cut 16 (PLift (C16 s)) (fun _ => ⟨[(2, .one (.ptr 16 0)), (3, .one (.ptr 17 0)), (6, .one (.slc 19)), (7, .one (.int .i64 (aheadN (cmL s)))), (8, .one (.slc 20)), (11, .one (.ptr 21 0))], [(21, some (.cells 25 ((cmP s).sc 22 23 24 25))), (22, some (.read (.items (cmP s).pre))), (23, some (.read (.items (cmP s).suf))), (24, some (.read (.items (cmP s).npre))), (25, some (.read (.items (cmP s).nsuf))), (16, some (.cells 25 z0.sc')), (17, some (.cells 28 [.int .i64 0, .int .i64 0])), (19, some (.read (.ivs (cmL s)))), (20, some (.read (.ivs (behindL (cmL s)))))], 26⟩)
  (fun _ => .cut 18 (PLift (C18 s)) (fun _ => ⟨[(2, .one (.ptr 16 0)), (3, .one (.ptr 17 0)), (11, .one (.ptr 21 0)), (12, .one (.ptr 26 0)), (13, .one (.ptr 33 0))], [(21, some (.cells 25 ((cmP s).sc 22 23 24 25))), (22, some (.read (.items (cmP s).pre))), (23, some (.read (.items (cmP s).suf))), (24, some (.read (.items (cmP s).npre))), (25, some (.read (.items (cmP s).nsuf))), (16, some (.cells 25 z0.sc')), (17, some (.cells 28 [.int .i64 0, .int .i64 0])), (33, some (.cells 28 [.int .i64 (rd2 s).2.1, .int .i64 (rd2 s).2.2])), (26, some (.cells 64 ((rd2 s).1.sc 27 28 29 30 31 32))), (27, some (.read (.items (rd2 s).1.px))), (28, some (.read (.items (rd2 s).1.sx))), (29, some (.read (.items []))), (30, some (.read (.items []))), (31, some (.read (.items []))), (32, some (.read (.items [])))], 34⟩) (fun _ => .nil)
  (.cut 21 (CO s) (fun x => ⟨[(2, .one (.ptr 16 0)), (3, .one (.ptr 17 0)), (11, .one (.ptr 18 0))], [(16, some (.cells 25 z0.sc')), (17, some (.cells 28 [.int .i64 0, .int .i64 0])), (18, some (.cells 25 (x.p.sc 19 20 21 22))), (19, some (.read (.items x.p.pre))), (20, some (.read (.items x.p.suf))), (21, some (.read (.items x.p.npre))), (22, some (.read (.items x.p.nsuf)))], 23⟩) (fun _ => .nil) .nil)) .nil) .nil) .nil) .nil) .nil
def sp_pcompile : FSpec := ⟨[], fun | [.one (.str s)] => some ([s.length ≤ 1000000], .tup [(true, (compileT s).1.pcs), (true, [.int .i64 (compileT s).2.1, .int .i64 (compileT s).2.2])]) | _ => none⟩
theorem vc_pcompile (s : List UInt8) : vcP [(30, sp_tscan), (31, sp_elements), (32, sp_ahead), (33, sp_pread), (34, sp_pmade), (35, sp_pall)] [] misc Tryz.f14 (ann15 s) [.one (.str s)] (.tup [(true, (compileT s).1.pcs), (true, [.int .i64 (compileT s).2.1, .int .i64 (compileT s).2.2])]) = (letI v0 := (madeT { px := PT.px (rd1 s).1, sx := PT.sx (rd1 s).1, f := { pre := [], suf := [], hn := false, npre := [], nsuf := [], n := PT.n (rd1 s).1, pa := (0 : Int), pd := (0 : Int), pw := PT.w (rd1 s).1 }, sp := PT.sp (rd1 s).1 }); letI v1 := ([] = Pat.pre (compileT s).1 ∧ [] = Pat.suf (compileT s).1 ∧ false = Pat.hn (compileT s).1 ∧ [] = Pat.npre (compileT s).1 ∧ [] = Pat.nsuf (compileT s).1 ∧ (0 : Int) = Num.mi (Pat.n (compileT s).1) ∧ (0 : Int) = Num.xi (Pat.n (compileT s).1) ∧ (0 : Int) = Num.mf (Pat.n (compileT s).1) ∧ (0 : Int) = Num.xf (Pat.n (compileT s).1) ∧ (0 : Int) = Num.ms (Pat.n (compileT s).1) ∧ (0 : Int) = Num.xs (Pat.n (compileT s).1) ∧ (0 : Int) = Num.pr (Pat.n (compileT s).1) ∧ (0 : Int) = Num.sc (Pat.n (compileT s).1) ∧ [] = Num.inc (Pat.n (compileT s).1) ∧ false = Num.ps (Pat.n (compileT s).1) ∧ (0 : Int) = Num.me (Pat.n (compileT s).1) ∧ false = Num.px (Pat.n (compileT s).1) ∧ (0 : Int) = Pat.pa (compileT s).1 ∧ (0 : Int) = Pat.pd (compileT s).1 ∧ (0 : Int) = Pat.pw (compileT s).1); letI v2 := (readT (behindL (cmL s)) (Iv.at_ (List.getD (cmL s) (Int.toNat (↑(aheadN (cmL s)) : Int)) default) + (1 : Int)) false); letI v3 := (Num.mi z0 = Num.mi z0 ∧ Num.xi z0 = Num.xi z0 ∧ Num.mf z0 = Num.mf z0 ∧ Num.xf z0 = Num.xf z0 ∧ Num.ms z0 = Num.ms z0 ∧ Num.xs z0 = Num.xs z0 ∧ Num.pr z0 = Num.pr z0 ∧ Num.sc z0 = Num.sc z0 ∧ Num.inc z0 = Num.inc z0 ∧ Num.ps z0 = Num.ps z0 ∧ Num.me z0 = Num.me z0 ∧ Num.px z0 = Num.px z0 ∧ (0 : Int) = (0 : Int) ∧ (0 : Int) = (0 : Int) ∧ (0 : Int) = (0 : Int)); letI v4 := (readT (List.drop (0 : Nat) (List.take (Int.toNat (↑(aheadN (cmL s)) : Int)) (cmL s))) (0 : Int) true); letI v5 := (↑(List.findIdx (isIn [(59 : UInt8)]) (behindL (cmL s))) : Int); letI v6 := (↑(List.findIdx (isIn [(59 : UInt8)]) (cmL s)) : Int); letI v7 := (↑(List.length (cmL s)) : Int); letI v8 := (Int.toNat (↑(aheadN (cmL s)) : Int)); (List.length s ≤ (1000000 : Nat) ∧ br ((scanT s).2.1 != (0 : Int)) (v1 ∧ (scanT s).2.1 = (compileT s).2.1 ∧ (scanT s).2.2 = (compileT s).2.2) (List.length (scanT s).1 ≤ (1000000000 : Nat) ∧ br ((elemsR (scanT s).1).2.1 != (0 : Int)) (v1 ∧ (elemsR (scanT s).1).2.1 = (compileT s).2.1 ∧ (elemsR (scanT s).1).2.2 = (compileT s).2.2) (∃ (j : PLift (C7 s)), ((0 : Int) = Num.mi z0 ∧ (0 : Int) = Num.xi z0 ∧ (0 : Int) = Num.mf z0 ∧ (0 : Int) = Num.xf z0 ∧ (0 : Int) = Num.ms z0 ∧ (0 : Int) = Num.xs z0 ∧ (0 : Int) = Num.pr z0 ∧ (0 : Int) = Num.sc z0 ∧ [] = Num.inc z0 ∧ false = Num.ps z0 ∧ (0 : Int) = Num.me z0 ∧ false = Num.px z0 ∧ (0 : Int) = (0 : Int) ∧ (0 : Int) = (0 : Int) ∧ (0 : Int) = (0 : Int)) ∧ (0 : Int) = (0 : Int) ∧ (0 : Int) = (0 : Int) ∧ (elemsR (scanT s).1).2.1 = (elemsR (scanT s).1).2.1 ∧ (elemsR (scanT s).1).2.2 = (elemsR (scanT s).1).2.2 ∧ (elemsR (scanT s).1).1 = cmL s) ∧ ∀ (j : PLift (C7 s)), List.length (cmL s) ≤ (1000000000 : Nat) ∧ (inR IntKind.i64 (v6 + (1 : Int)) ∧ ((0 : Int) ≤ List.foldl (mnx false) (v6 + (1 : Int)) [v7] ∧ List.foldl (mnx false) (v6 + (1 : Int)) [v7] ≤ v7) ∧ ∃ (j : PLift (C7 s)), v6 = (↑(aheadN (cmL s)) : Int) ∧ v3 ∧ (0 : Int) = (0 : Int) ∧ (0 : Int) = (0 : Int) ∧ (elemsR (scanT s).1).2.1 = (elemsR (scanT s).1).2.1 ∧ (elemsR (scanT s).1).2.2 = (elemsR (scanT s).1).2.2 ∧ cmL s = cmL s ∧ List.drop (Int.toNat (List.foldl (mnx false) (v6 + (1 : Int)) [v7])) (List.take (List.length (cmL s)) (cmL s)) = behindL (cmL s)) ∧ ∀ (j : PLift (C7 s)), (List.length (behindL (cmL s)) ≤ (1000000000 : Nat) ∧ br (decide (v5 < (↑(List.length (behindL (cmL s))) : Int))) (((0 : Int) ≤ v5 ∧ v5 < (↑(List.length (behindL (cmL s))) : Int)) ∧ Int.toNat v5 < List.length (behindL (cmL s)) ∧ Iv.isE (List.getD (behindL (cmL s)) (Int.toNat v5) default) = true ∧ v1 ∧ (4 : Int) = (compileT s).2.1 ∧ Iv.at_ (List.getD (behindL (cmL s)) (Int.toNat v5) default) = (compileT s).2.2) (∃ (j : PLift (C12 s)), (↑(aheadN (cmL s)) : Int) = (↑(aheadN (cmL s)) : Int) ∧ v3 ∧ (0 : Int) = (0 : Int) ∧ (0 : Int) = (0 : Int) ∧ (elemsR (scanT s).1).2.1 = (elemsR (scanT s).1).2.1 ∧ (elemsR (scanT s).1).2.2 = (elemsR (scanT s).1).2.2 ∧ cmL s = cmL s ∧ behindL (cmL s) = behindL (cmL s))) ∧ ∀ (j : PLift (C12 s)), (((0 : Int) ≤ (↑(aheadN (cmL s)) : Int) ∧ (↑(aheadN (cmL s)) : Int) ≤ v7) ∧ (∀ (y : Iv), y ∈ List.drop (0 : Nat) (List.take v8 (cmL s)) → Iv.isE y = true ∧ (Iv.isS y = true → scalar (Iv.sR y) = true)) ∧ List.length (List.drop (0 : Nat) (List.take v8 (cmL s))) ≤ (1000000 : Nat) ∧ ∃ (j : PLift (C12 s)), (↑(aheadN (cmL s)) : Int) = (↑(aheadN (cmL s)) : Int) ∧ v3 ∧ (0 : Int) = (0 : Int) ∧ (0 : Int) = (0 : Int) ∧ v4.2.1 = (rd1 s).2.1 ∧ v4.2.2 = (rd1 s).2.2 ∧ cmL s = cmL s ∧ behindL (cmL s) = behindL (cmL s) ∧ (false = false ∧ Num.mi (PT.n v4.1) = Num.mi (PT.n (rd1 s).1) ∧ Num.xi (PT.n v4.1) = Num.xi (PT.n (rd1 s).1) ∧ Num.mf (PT.n v4.1) = Num.mf (PT.n (rd1 s).1) ∧ Num.xf (PT.n v4.1) = Num.xf (PT.n (rd1 s).1) ∧ Num.ms (PT.n v4.1) = Num.ms (PT.n (rd1 s).1) ∧ Num.xs (PT.n v4.1) = Num.xs (PT.n (rd1 s).1) ∧ Num.pr (PT.n v4.1) = Num.pr (PT.n (rd1 s).1) ∧ Num.sc (PT.n v4.1) = Num.sc (PT.n (rd1 s).1) ∧ Num.inc (PT.n v4.1) = Num.inc (PT.n (rd1 s).1) ∧ Num.ps (PT.n v4.1) = Num.ps (PT.n (rd1 s).1) ∧ Num.me (PT.n v4.1) = Num.me (PT.n (rd1 s).1) ∧ Num.px (PT.n v4.1) = Num.px (PT.n (rd1 s).1) ∧ (0 : Int) = (0 : Int) ∧ (0 : Int) = (0 : Int) ∧ PT.w v4.1 = PT.w (rd1 s).1 ∧ Spot.r (PT.sp v4.1) = Spot.r (PT.sp (rd1 s).1) ∧ Spot.p (PT.sp v4.1) = Spot.p (PT.sp (rd1 s).1) ∧ Spot.w (PT.sp v4.1) = Spot.w (PT.sp (rd1 s).1)) ∧ PT.px v4.1 = PT.px (rd1 s).1 ∧ PT.sx v4.1 = PT.sx (rd1 s).1 ∧ ([] : List Itm) = [] ∧ ([] : List Itm) = [] ∧ ([] : List Itm) = [] ∧ ([] : List Itm) = []) ∧ ∀ (j : PLift (C12 s)), br ((rd1 s).2.1 != (0 : Int)) (v1 ∧ (rd1 s).2.1 = (compileT s).2.1 ∧ (rd1 s).2.2 = (compileT s).2.2) (((List.length (PT.px (rd1 s).1) ≤ (1000000 : Nat) ∧ List.length (PT.sx (rd1 s).1) ≤ (1000000 : Nat)) ∧ ∃ (j : PLift (C16 s)), (↑(aheadN (cmL s)) : Int) = (↑(aheadN (cmL s)) : Int) ∧ (Pat.hn v0 = Pat.hn (cmP s) ∧ Num.mi (Pat.n v0) = Num.mi (Pat.n (cmP s)) ∧ Num.xi (Pat.n v0) = Num.xi (Pat.n (cmP s)) ∧ Num.mf (Pat.n v0) = Num.mf (Pat.n (cmP s)) ∧ Num.xf (Pat.n v0) = Num.xf (Pat.n (cmP s)) ∧ Num.ms (Pat.n v0) = Num.ms (Pat.n (cmP s)) ∧ Num.xs (Pat.n v0) = Num.xs (Pat.n (cmP s)) ∧ Num.pr (Pat.n v0) = Num.pr (Pat.n (cmP s)) ∧ Num.sc (Pat.n v0) = Num.sc (Pat.n (cmP s)) ∧ Num.inc (Pat.n v0) = Num.inc (Pat.n (cmP s)) ∧ Num.ps (Pat.n v0) = Num.ps (Pat.n (cmP s)) ∧ Num.me (Pat.n v0) = Num.me (Pat.n (cmP s)) ∧ Num.px (Pat.n v0) = Num.px (Pat.n (cmP s)) ∧ Pat.pa v0 = Pat.pa (cmP s) ∧ Pat.pd v0 = Pat.pd (cmP s) ∧ Pat.pw v0 = Pat.pw (cmP s)) ∧ Pat.pre v0 = Pat.pre (cmP s) ∧ Pat.suf v0 = Pat.suf (cmP s) ∧ Pat.npre v0 = Pat.npre (cmP s) ∧ Pat.nsuf v0 = Pat.nsuf (cmP s) ∧ v3 ∧ (0 : Int) = (0 : Int) ∧ (0 : Int) = (0 : Int) ∧ cmL s = cmL s ∧ behindL (cmL s) = behindL (cmL s)) ∧ ∀ (j : PLift (C16 s)), br (decide ((↑(aheadN (cmL s)) : Int) < v7)) ((((0 : Int) ≤ (↑(aheadN (cmL s)) : Int) ∧ (↑(aheadN (cmL s)) : Int) < v7) ∧ Int.toNat (↑(aheadN (cmL s)) : Int) < List.length (cmL s) ∧ Iv.isE (List.getD (cmL s) v8 default) = true ∧ inR IntKind.i64 (Iv.at_ (List.getD (cmL s) v8 default) + (1 : Int)) ∧ (∀ (y : Iv), y ∈ behindL (cmL s) → Iv.isE y = true ∧ (Iv.isS y = true → scalar (Iv.sR y) = true)) ∧ List.length (behindL (cmL s)) ≤ (1000000 : Nat) ∧ ∃ (j : PLift (C18 s)), (Pat.hn (cmP s) = Pat.hn (cmP s) ∧ Num.mi (Pat.n (cmP s)) = Num.mi (Pat.n (cmP s)) ∧ Num.xi (Pat.n (cmP s)) = Num.xi (Pat.n (cmP s)) ∧ Num.mf (Pat.n (cmP s)) = Num.mf (Pat.n (cmP s)) ∧ Num.xf (Pat.n (cmP s)) = Num.xf (Pat.n (cmP s)) ∧ Num.ms (Pat.n (cmP s)) = Num.ms (Pat.n (cmP s)) ∧ Num.xs (Pat.n (cmP s)) = Num.xs (Pat.n (cmP s)) ∧ Num.pr (Pat.n (cmP s)) = Num.pr (Pat.n (cmP s)) ∧ Num.sc (Pat.n (cmP s)) = Num.sc (Pat.n (cmP s)) ∧ Num.inc (Pat.n (cmP s)) = Num.inc (Pat.n (cmP s)) ∧ Num.ps (Pat.n (cmP s)) = Num.ps (Pat.n (cmP s)) ∧ Num.me (Pat.n (cmP s)) = Num.me (Pat.n (cmP s)) ∧ Num.px (Pat.n (cmP s)) = Num.px (Pat.n (cmP s)) ∧ Pat.pa (cmP s) = Pat.pa (cmP s) ∧ Pat.pd (cmP s) = Pat.pd (cmP s) ∧ Pat.pw (cmP s) = Pat.pw (cmP s)) ∧ Pat.pre (cmP s) = Pat.pre (cmP s) ∧ Pat.suf (cmP s) = Pat.suf (cmP s) ∧ Pat.npre (cmP s) = Pat.npre (cmP s) ∧ Pat.nsuf (cmP s) = Pat.nsuf (cmP s) ∧ v3 ∧ (0 : Int) = (0 : Int) ∧ (0 : Int) = (0 : Int) ∧ v2.2.1 = (rd2 s).2.1 ∧ v2.2.2 = (rd2 s).2.2 ∧ (false = false ∧ Num.mi (PT.n v2.1) = Num.mi (PT.n (rd2 s).1) ∧ Num.xi (PT.n v2.1) = Num.xi (PT.n (rd2 s).1) ∧ Num.mf (PT.n v2.1) = Num.mf (PT.n (rd2 s).1) ∧ Num.xf (PT.n v2.1) = Num.xf (PT.n (rd2 s).1) ∧ Num.ms (PT.n v2.1) = Num.ms (PT.n (rd2 s).1) ∧ Num.xs (PT.n v2.1) = Num.xs (PT.n (rd2 s).1) ∧ Num.pr (PT.n v2.1) = Num.pr (PT.n (rd2 s).1) ∧ Num.sc (PT.n v2.1) = Num.sc (PT.n (rd2 s).1) ∧ Num.inc (PT.n v2.1) = Num.inc (PT.n (rd2 s).1) ∧ Num.ps (PT.n v2.1) = Num.ps (PT.n (rd2 s).1) ∧ Num.me (PT.n v2.1) = Num.me (PT.n (rd2 s).1) ∧ Num.px (PT.n v2.1) = Num.px (PT.n (rd2 s).1) ∧ (0 : Int) = (0 : Int) ∧ (0 : Int) = (0 : Int) ∧ PT.w v2.1 = PT.w (rd2 s).1 ∧ Spot.r (PT.sp v2.1) = Spot.r (PT.sp (rd2 s).1) ∧ Spot.p (PT.sp v2.1) = Spot.p (PT.sp (rd2 s).1) ∧ Spot.w (PT.sp v2.1) = Spot.w (PT.sp (rd2 s).1)) ∧ PT.px v2.1 = PT.px (rd2 s).1 ∧ PT.sx v2.1 = PT.sx (rd2 s).1 ∧ ([] : List Itm) = [] ∧ ([] : List Itm) = [] ∧ ([] : List Itm) = [] ∧ ([] : List Itm) = []) ∧ ∀ (j : PLift (C18 s)), br ((rd2 s).2.1 != (0 : Int)) (v1 ∧ (rd2 s).2.1 = (compileT s).2.1 ∧ (rd2 s).2.2 = (compileT s).2.2) (∃ (j : CO s), v3 ∧ (0 : Int) = (0 : Int) ∧ (0 : Int) = (0 : Int) ∧ (true = Pat.hn (CO.p j) ∧ Num.mi (Pat.n (cmP s)) = Num.mi (Pat.n (CO.p j)) ∧ Num.xi (Pat.n (cmP s)) = Num.xi (Pat.n (CO.p j)) ∧ Num.mf (Pat.n (cmP s)) = Num.mf (Pat.n (CO.p j)) ∧ Num.xf (Pat.n (cmP s)) = Num.xf (Pat.n (CO.p j)) ∧ Num.ms (Pat.n (cmP s)) = Num.ms (Pat.n (CO.p j)) ∧ Num.xs (Pat.n (cmP s)) = Num.xs (Pat.n (CO.p j)) ∧ Num.pr (Pat.n (cmP s)) = Num.pr (Pat.n (CO.p j)) ∧ Num.sc (Pat.n (cmP s)) = Num.sc (Pat.n (CO.p j)) ∧ Num.inc (Pat.n (cmP s)) = Num.inc (Pat.n (CO.p j)) ∧ Num.ps (Pat.n (cmP s)) = Num.ps (Pat.n (CO.p j)) ∧ Num.me (Pat.n (cmP s)) = Num.me (Pat.n (CO.p j)) ∧ Num.px (Pat.n (cmP s)) = Num.px (Pat.n (CO.p j)) ∧ Pat.pa (cmP s) = Pat.pa (CO.p j) ∧ Pat.pd (cmP s) = Pat.pd (CO.p j) ∧ Pat.pw (cmP s) = Pat.pw (CO.p j)) ∧ Pat.pre (cmP s) = Pat.pre (CO.p j) ∧ Pat.suf (cmP s) = Pat.suf (CO.p j) ∧ PT.px (rd2 s).1 = Pat.npre (CO.p j) ∧ PT.sx (rd2 s).1 = Pat.nsuf (CO.p j))) (∃ (j : CO s), v3 ∧ (0 : Int) = (0 : Int) ∧ (0 : Int) = (0 : Int) ∧ (Pat.hn (cmP s) = Pat.hn (CO.p j) ∧ Num.mi (Pat.n (cmP s)) = Num.mi (Pat.n (CO.p j)) ∧ Num.xi (Pat.n (cmP s)) = Num.xi (Pat.n (CO.p j)) ∧ Num.mf (Pat.n (cmP s)) = Num.mf (Pat.n (CO.p j)) ∧ Num.xf (Pat.n (cmP s)) = Num.xf (Pat.n (CO.p j)) ∧ Num.ms (Pat.n (cmP s)) = Num.ms (Pat.n (CO.p j)) ∧ Num.xs (Pat.n (cmP s)) = Num.xs (Pat.n (CO.p j)) ∧ Num.pr (Pat.n (cmP s)) = Num.pr (Pat.n (CO.p j)) ∧ Num.sc (Pat.n (cmP s)) = Num.sc (Pat.n (CO.p j)) ∧ Num.inc (Pat.n (cmP s)) = Num.inc (Pat.n (CO.p j)) ∧ Num.ps (Pat.n (cmP s)) = Num.ps (Pat.n (CO.p j)) ∧ Num.me (Pat.n (cmP s)) = Num.me (Pat.n (CO.p j)) ∧ Num.px (Pat.n (cmP s)) = Num.px (Pat.n (CO.p j)) ∧ Pat.pa (cmP s) = Pat.pa (CO.p j) ∧ Pat.pd (cmP s) = Pat.pd (CO.p j) ∧ Pat.pw (cmP s) = Pat.pw (CO.p j)) ∧ Pat.pre (cmP s) = Pat.pre (CO.p j) ∧ Pat.suf (cmP s) = Pat.suf (CO.p j) ∧ Pat.npre (cmP s) = Pat.npre (CO.p j) ∧ Pat.nsuf (cmP s) = Pat.nsuf (CO.p j)) ∧ ∀ (j : CO s), List.length (Pat.pre (CO.p j)) + List.length (Pat.suf (CO.p j)) + List.length (Pat.npre (CO.p j)) + List.length (Pat.nsuf (CO.p j)) ≤ (1000000000 : Nat) ∧ br (hasItm (4 : Int) (Pat.pre (CO.p j) ++ Pat.suf (CO.p j) ++ Pat.npre (CO.p j) ++ Pat.nsuf (CO.p j))) (List.length (Pat.pre (CO.p j)) + List.length (Pat.suf (CO.p j)) + List.length (Pat.npre (CO.p j)) + List.length (Pat.nsuf (CO.p j)) ≤ (1000000000 : Nat) ∧ br (hasItm (5 : Int) (Pat.pre (CO.p j) ++ Pat.suf (CO.p j) ++ Pat.npre (CO.p j) ++ Pat.nsuf (CO.p j))) (v1 ∧ (6 : Int) = (compileT s).2.1 ∧ (0 : Int) = (compileT s).2.2) ((Pat.pre (CO.p j) = Pat.pre (compileT s).1 ∧ Pat.suf (CO.p j) = Pat.suf (compileT s).1 ∧ Pat.hn (CO.p j) = Pat.hn (compileT s).1 ∧ Pat.npre (CO.p j) = Pat.npre (compileT s).1 ∧ Pat.nsuf (CO.p j) = Pat.nsuf (compileT s).1 ∧ Num.mi (Pat.n (CO.p j)) = Num.mi (Pat.n (compileT s).1) ∧ Num.xi (Pat.n (CO.p j)) = Num.xi (Pat.n (compileT s).1) ∧ Num.mf (Pat.n (CO.p j)) = Num.mf (Pat.n (compileT s).1) ∧ Num.xf (Pat.n (CO.p j)) = Num.xf (Pat.n (compileT s).1) ∧ Num.ms (Pat.n (CO.p j)) = Num.ms (Pat.n (compileT s).1) ∧ Num.xs (Pat.n (CO.p j)) = Num.xs (Pat.n (compileT s).1) ∧ Num.pr (Pat.n (CO.p j)) = Num.pr (Pat.n (compileT s).1) ∧ Num.sc (Pat.n (CO.p j)) = Num.sc (Pat.n (compileT s).1) ∧ Num.inc (Pat.n (CO.p j)) = Num.inc (Pat.n (compileT s).1) ∧ Num.ps (Pat.n (CO.p j)) = Num.ps (Pat.n (compileT s).1) ∧ Num.me (Pat.n (CO.p j)) = Num.me (Pat.n (compileT s).1) ∧ Num.px (Pat.n (CO.p j)) = Num.px (Pat.n (compileT s).1) ∧ Pat.pa (CO.p j) = Pat.pa (compileT s).1 ∧ Pat.pd (CO.p j) = Pat.pd (compileT s).1 ∧ Pat.pw (CO.p j) = Pat.pw (compileT s).1) ∧ (0 : Int) = (compileT s).2.1 ∧ (0 : Int) = (compileT s).2.2)) ((Pat.pre (CO.p j) = Pat.pre (compileT s).1 ∧ Pat.suf (CO.p j) = Pat.suf (compileT s).1 ∧ Pat.hn (CO.p j) = Pat.hn (compileT s).1 ∧ Pat.npre (CO.p j) = Pat.npre (compileT s).1 ∧ Pat.nsuf (CO.p j) = Pat.nsuf (compileT s).1 ∧ Num.mi (Pat.n (CO.p j)) = Num.mi (Pat.n (compileT s).1) ∧ Num.xi (Pat.n (CO.p j)) = Num.xi (Pat.n (compileT s).1) ∧ Num.mf (Pat.n (CO.p j)) = Num.mf (Pat.n (compileT s).1) ∧ Num.xf (Pat.n (CO.p j)) = Num.xf (Pat.n (compileT s).1) ∧ Num.ms (Pat.n (CO.p j)) = Num.ms (Pat.n (compileT s).1) ∧ Num.xs (Pat.n (CO.p j)) = Num.xs (Pat.n (compileT s).1) ∧ Num.pr (Pat.n (CO.p j)) = Num.pr (Pat.n (compileT s).1) ∧ Num.sc (Pat.n (CO.p j)) = Num.sc (Pat.n (compileT s).1) ∧ Num.inc (Pat.n (CO.p j)) = Num.inc (Pat.n (compileT s).1) ∧ Num.ps (Pat.n (CO.p j)) = Num.ps (Pat.n (compileT s).1) ∧ Num.me (Pat.n (CO.p j)) = Num.me (Pat.n (compileT s).1) ∧ Num.px (Pat.n (CO.p j)) = Num.px (Pat.n (compileT s).1) ∧ Pat.pa (CO.p j) = Pat.pa (compileT s).1 ∧ Pat.pd (CO.p j) = Pat.pd (compileT s).1 ∧ Pat.pw (CO.p j) = Pat.pw (compileT s).1) ∧ (0 : Int) = (compileT s).2.1 ∧ (0 : Int) = (compileT s).2.2))))) := by kernel_rfl
set_option maxHeartbeats 4000000 in
theorem of_pcompile (h : ∀ (s : List UInt8), (s.length ≤ 1000000) → vcP [(30, sp_tscan), (31, sp_elements), (32, sp_ahead), (33, sp_pread), (34, sp_pmade), (35, sp_pall)] [] misc Tryz.f14 (ann15 s) [.one (.str s)] (.tup [(true, (compileT s).1.pcs), (true, [.int .i64 (compileT s).2.1, .int .i64 (compileT s).2.2])])) : FnP 14 sp_pcompile := by
  refine fnP_ok (cs := [(30, sp_tscan), (31, sp_elements), (32, sp_ahead), (33, sp_pread), (34, sp_pmade), (35, sp_pall)]) (cas := []) (ms := misc) (.cons ok_tscan (.cons ok_elements (.cons ok_ahead (.cons ok_pread (.cons ok_pmade (.cons ok_pall .nil)))))) .nil misc_ok 14 Tryz.f14 (by kernel_rfl) (by kernel_rfl) (by kernel_rfl) (fun | [.one (.str s)] => ann15 s | _ => .nil) ?_
  intro pvs p r hs hp
  unfold sp_pcompile at hs
  simp only at hs
  split at hs
  · rename_i s
    cases hs
    refine h s ?_
    · exact hp
  · cases hs

theorem readT_len (l : List Iv) (b : Int) (first : Bool) : (readT l b first).1.px.length ≤ 40 ∧ (readT l b first).1.sx.length ≤ 40 := by
  have i1 := itemsR_len (plainT (cutT l b).1.p)
  have i2 := itemsR_len (plainT (cutT l b).1.s)
  unfold readT
  split
  · exact ⟨Nat.zero_le _, Nat.zero_le _⟩
  · split
    · exact ⟨Nat.zero_le _, Nat.zero_le _⟩
    · split
      · exact ⟨Nat.zero_le _, Nat.zero_le _⟩
      · split
        · exact ⟨Nat.zero_le _, Nat.zero_le _⟩
        · split
          · exact ⟨Nat.zero_le _, Nat.zero_le _⟩
          · exact ⟨i1, i2⟩
theorem fold_min (x y : Int) : List.foldl (mnx false) x [y] = min x y := by
  show (if y < x then y else x) = _
  split <;> omega
theorem compile_scan {s : List UInt8} (h : (scanT s).2.1 ≠ 0) : compileT s = (p0, (scanT s).2) := by unfold compileT; rw [if_pos h]
theorem compile_elems {s : List UInt8} (h1 : (scanT s).2.1 = 0) (h : (elemsR (scanT s).1).2.1 ≠ 0) : compileT s = (p0, (elemsR (scanT s).1).2) := by unfold compileT; rw [if_neg (by simp [h1]), if_pos h]
theorem compile_E {s : List UInt8} (h : C7 s) : compileT s = compE (cmL s) := by unfold compileT; rw [if_neg (by simp [h.h1]), if_neg (by simp [h.h2])]; rfl
theorem compile_semi {s : List UInt8} (h : C7 s) (h3 : aheadN (behindL (cmL s)) < (behindL (cmL s)).length) : compileT s = (p0, 4, ((behindL (cmL s)).getD (aheadN (behindL (cmL s))) default).at_) := by
  rw [compile_E h]; unfold compE; rw [if_pos h3]
theorem compile_r1 {s : List UInt8} (h : C12 s) (h4 : (rd1 s).2.1 ≠ 0) : compileT s = (p0, (rd1 s).2) := by
  rw [compile_E h.toC7]; unfold compE; rw [if_neg h.h3]
  exact if_pos h4
theorem compile_r2 {s : List UInt8} (h : C18 s) (h4 : (rd2 s).2.1 ≠ 0) : compileT s = (p0, (rd2 s).2) := by
  rw [compile_E h.toC7]; unfold compE; rw [if_neg h.h3]
  exact (if_neg fun h0 => h0 h.h4).trans ((if_pos h.h5).trans (if_pos h4))
theorem compile_two {s : List UInt8} (h : C18 s) (h4 : (rd2 s).2.1 = 0) : compileT s = if bothH (cmQ s) = true then (p0, 6, 0) else (cmQ s, 0, 0) := by
  rw [compile_E h.toC7]; unfold compE; rw [if_neg h.h3]
  exact (if_neg fun h0 => h0 h.h4).trans ((if_pos h.h5).trans (if_neg fun h0 => h0 h4))
theorem compile_one {s : List UInt8} (h : C16 s) (h5 : ¬ aheadN (cmL s) < (cmL s).length) : compileT s = if bothH (cmP s) = true then (p0, 6, 0) else (cmP s, 0, 0) := by
  rw [compile_E h.toC7]; unfold compE; rw [if_neg h.h3]
  exact (if_neg fun h0 => h0 h.h4).trans (if_neg h5)
set_option maxHeartbeats 4000000 in
theorem ok_pcompile : FnP 14 sp_pcompile := of_pcompile (by
  intro s hs
  rw [vc_pcompile]
  obtain ⟨h1, h2, h3, h4, h5⟩ := scanT_in s
  obtain ⟨k1, k2, k3⟩ := elems_in s
  have hL : cmL s = (elemsR (scanT s).1).1 := rfl
  rw [← hL] at k1 k3
  have l1 : (rd1 s).1.px.length ≤ 40 ∧ (rd1 s).1.sx.length ≤ 40 := readT_len ((cmL s).take (aheadN (cmL s))) 0 true
  have l2 : (rd2 s).1.px.length ≤ 40 ∧ (rd2 s).1.sx.length ≤ 40 := readT_len (behindL (cmL s)) (((cmL s).getD (aheadN (cmL s)) default).at_ + 1) false
  have hb : (behindL (cmL s)).length ≤ 400 := by unfold behindL; rw [List.length_drop]; omega
  have hb1 : EP (fun x => 0 ≤ x ∧ x < (s.length : Int)) (behindL (cmL s)) := k1.drop _
  have ha : (cmL s).findIdx (isIn [59]) = aheadN (cmL s) := rfl
  have hal : aheadN (cmL s) ≤ (cmL s).length := List.findIdx_le_length
  have hab : (behindL (cmL s)).findIdx (isIn [59]) = aheadN (behindL (cmL s)) := rfl
  have hbe : List.drop (Int.toNat (List.foldl (mnx false) ((aheadN (cmL s) : Int) + 1) [((cmL s).length : Int)])) (List.take (cmL s).length (cmL s)) = behindL (cmL s) := by
    rw [fold_min, List.take_length]; unfold behindL; congr 1; omega
  have htk : List.drop 0 (List.take (Int.toNat (aheadN (cmL s) : Int)) (cmL s)) = (cmL s).take (aheadN (cmL s)) := by rw [Int.toNat_natCast]; rfl
  have htl : ((cmL s).take (aheadN (cmL s))).length ≤ 400 := by rw [List.length_take]; omega
  rw [ha, hab, htk]
  rw [show readT (List.take (aheadN (cmL s)) (cmL s)) 0 true = rd1 s from rfl]
  have fP : (cmP s).pre.length + (cmP s).suf.length + (cmP s).npre.length + (cmP s).nsuf.length ≤ 1000000000 := by
    show (rd1 s).1.px.length + (rd1 s).1.sx.length + ((rd1 s).1.px.length + 1) + (rd1 s).1.sx.length ≤ _
    omega
  have fQ : (cmQ s).pre.length + (cmQ s).suf.length + (cmQ s).npre.length + (cmQ s).nsuf.length ≤ 1000000000 := by
    show (rd1 s).1.px.length + (rd1 s).1.sx.length + (rd2 s).1.px.length + (rd2 s).1.sx.length ≤ _
    omega
  refine ⟨by omega, br_of (fun h => ?_) fun h => ⟨by omega, br_of (fun h' => ?_) fun h' => ⟨⟨⟨?_, ?_⟩⟩, ?_⟩, fun j7 => ⟨by omega, ⟨by simp only [inR]; omega, by rw [fold_min]; omega, j7, ?_⟩, fun _ => ⟨⟨by omega, br_of (fun h => ?_) fun h => ⟨⟨j7.down, ?_⟩, ?_⟩⟩, fun j12 => ⟨⟨by omega, fun y hy => (k1.take _ y hy).1, by omega, j12, ?_⟩, fun _ => br_of (fun h => ?_) fun h => ⟨⟨by omega, ⟨⟨j12.down, ?_⟩⟩, ?_⟩, fun j16 => ⟨br_of (fun h => ?_) fun h => ?_, fun x => ?_⟩⟩⟩⟩⟩⟩⟩
  · have h : (scanT s).2.1 ≠ 0 := by simpa using h
    rw [compile_scan h]; and_intros <;> rfl
  all_goals have g1 : (scanT s).2.1 = 0 := by first | exact j7.down.h1 | simpa using h
  · have h' : (elemsR (scanT s).1).2.1 ≠ 0 := by simpa using h'
    rw [compile_elems g1 h']; and_intros <;> rfl
  · exact g1
  · simpa using h'
  · and_intros <;> rfl
  · and_intros
    all_goals first | rfl | exact hbe
  all_goals have g7 : C7 s := j7.down
  · have h : aheadN (behindL (cmL s)) < (behindL (cmL s)).length := by simpa using h
    rw [compile_semi g7 h, Int.toNat_natCast]
    refine ⟨by omega, h, ?_⟩
    have := (hb1 _ (show (behindL (cmL s)).getD (aheadN (behindL (cmL s))) default ∈ behindL (cmL s) by rw [List.getD_eq_getElem?_getD, List.getElem?_eq_getElem h]; exact List.getElem_mem h)).1.1
    refine ⟨this, ?_⟩
    and_intros <;> rfl
  · simpa using h
  · and_intros <;> rfl
  all_goals have g12 : C12 s := j12.down
  · and_intros
    all_goals first | rfl
  · have h : (rd1 s).2.1 ≠ 0 := by simpa using h
    rw [compile_r1 g12 h]; and_intros <;> rfl
  · simpa using h
  · and_intros <;> rfl
  all_goals have g16 : C16 s := j16.down
  · have h : aheadN (cmL s) < (cmL s).length := by simpa using h
    have hm := k1 _ (show (cmL s).getD (aheadN (cmL s)) default ∈ cmL s by rw [List.getD_eq_getElem?_getD, List.getElem?_eq_getElem h]; exact List.getElem_mem h)
    rw [Int.toNat_natCast]
    refine ⟨⟨by omega, h, hm.1.1, by have := hm.2; simp only [inR]; omega, fun y hy => (hb1 y hy).1, by omega, ⟨⟨g16, h⟩⟩, ?_⟩, fun j18 => br_of (fun h => ?_) fun h => ⟨⟨cmQ s, fQ, compile_two j18.down (by simpa using h)⟩, ?_⟩⟩
    · and_intros <;> rfl
    · have h : (rd2 s).2.1 ≠ 0 := by simpa using h
      rw [compile_r2 j18.down h]; and_intros <;> rfl
    · and_intros <;> rfl
  · have h : ¬ aheadN (cmL s) < (cmL s).length := by simpa using h
    refine ⟨⟨cmP s, fP, compile_one g16 h⟩, ?_⟩
    and_intros <;> rfl
  · have hx := x.eq
    refine ⟨x.few, br_of (fun h => ⟨x.few, br_of (fun h' => ?_) fun h' => ?_⟩) fun h => ?_⟩
    · rw [if_pos (by unfold bothH; rw [h, h']; rfl)] at hx
      rw [hx]; and_intros <;> rfl
    · rw [if_neg (by unfold bothH; rw [h, h']; decide)] at hx
      rw [hx]; and_intros <;> rfl
    · rw [if_neg (by unfold bothH; rw [h]; simp)] at hx
      rw [hx]; and_intros <;> rfl)
end Go.Proofs.YtglfkihckkjniaaGreatDoor.Vx
