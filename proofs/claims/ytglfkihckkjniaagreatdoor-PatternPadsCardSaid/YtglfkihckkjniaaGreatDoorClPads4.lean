/-
PatternPads, for all arguments. What is said of it here: the law returns true, and its arguments stay as they were. Condition: the listed package-level variables (affix.signs, utf8.first, utf8.acceptRanges) hold what the program's text lays; the card ties them.
-/
import Derived.Test.YtglfkihckkjniaaGreatDoorTie
import Derived.HandedShaped
import Derived.ProofKit
import Derived.Shelf.Vars
import Derived.PinnedBridge
import Derived.Lay
import Derived.Lib.LaidU8
import Derived.LaidMore
import Derived.OpenShut
import Derived.Deep.SlicePairs
import Derived.Carry
import Derived.SizedLaws
import Derived.Test.YtglfkihckkjniaaGreatDoorCards
import Derived.Test.YtglfkihckkjniaaGreatDoorClPads3
set_option maxRecDepth 100000
set_option linter.unusedVariables false
set_option linter.unusedSimpArgs false
namespace Go.Proofs.YtglfkihckkjniaaGreatDoor.Vx
open Go Go.RowKit
def OB (s : List UInt8) : Type := {i : Nat // (rs1 s).c = 0 ∧ i ≤ (numB s).length ∧ anyP isOdd ((numB s).take i) = false}
structure E27 (s : List UInt8) where
  i : Nat
  ps : List Int
  pl : List UInt8
  n : Int
  le : i ≤ (rs2 s).w.length + 1
  few : ps.length ≤ i
  n0 : 0 ≤ n ∧ n ≤ (rs2 s).w.length
  nn : n ≤ i
  sz : i ≤ (rs2 s).w.length → ps ++ sizesN n ((rs2 s).w.drop i) = szZ (rs2 s).w
  sz1 : ¬ i ≤ (rs2 s).w.length → ps = szZ (rs2 s).w
  fl : pl ++ ((rs2 s).w.drop i).filter (fun x => decide (x ≠ 44)) = (splitC 44 (rs2 s).w).flatten
  pn : pl.length ≤ i
structure N23 (s : List UInt8) : Prop where
  c2 : (rs2 s).c = 0
  g : ¬ 0 < cntC 44 (rs2 s).f
def I35 (s : List UInt8) : Type := {i : Nat // i ≤ (szZ (rs2 s).w).length ∧ (1 < (szZ (rs2 s).w).length → ∀ j, j < i → (szZ (rs2 s).w).getD j 0 ≠ 0)}
structure N43 (s : List UInt8) : Prop where
  c3 : (rs3 s).c = 0
  ne : emptyIn (splitC 44 (rs2 s).w) = false
structure N51 (s : List UInt8) : Prop extends N43 s where
  h1 : ¬ (rs3 s).w ++ (rs3 s).f = []
  h2 : 0 < cntC 64 ((rs3 s).w ++ (rs3 s).f)
  h3 : ¬ ((rs3 s).pt = true ∨ 0 < cntC 48 (rs3 s).w)
  h4 : rowsF 35 64 35 0 (rs3 s).w = []
  h5 : 0 < cntC 64 (rs3 s).w
def J53 (s : List UInt8) : Type := {j : Nat // N51 s ∧ j ≤ (rs3 s).w.length ∧ dropP (· == 35) ((rs3 s).w.drop j) = dropP (· == 35) (rs3 s).w}
structure N57 (s : List UInt8) : Prop extends N43 s where
  h1 : ¬ (rs3 s).w ++ (rs3 s).f = []
  h2 : ¬ 0 < cntC 64 ((rs3 s).w ++ (rs3 s).f)
  h3 : rowsF 35 48 48 0 (rs3 s).w = []
  h4 : rowsF 48 35 35 0 (rs3 s).f = []
def wf (s : List UInt8) : List UInt8 := (rs3 s).w ++ (rs3 s).f
def flt (l : List UInt8) : List UInt8 := l.filter fun x => decide ((x.toNat : Int) ≠ 35)
def dg1 (s : List UInt8) : Num := { (rs3 s).p with mi := cntC 48 (rs3 s).w, mf := cntC 48 (rs3 s).f, xf := (rs3 s).f.length }
structure N69 (s : List UInt8) : Prop extends N43 s where
  c4 : (rs4 s).c = 0
  w4 : (rs4 s).w = (rs3 s).w
  pr4 : (rs4 s).p.pr = (rs3 s).p.pr
def zsc : List SC := z0.sc'
def xt (s : List UInt8) : List UInt8 := Lib.trimPrefix (numX s) [43]
def xp (s : List UInt8) : Num := { z0 with px := Lib.hasPrefix (numX s) [43] }
def b7 (s : List UInt8) : Bool := decide (xt s = []) || decide (dropP (· == 48) (xt s) ≠ [])
def bw (s : List UInt8) : List UInt8 := (Lib.cut (numB s) [46]).1
def bf (s : List UInt8) : List UInt8 := (Lib.cut (numB s) [46]).2.1
def bp (s : List UInt8) : Bool := (Lib.cut (numB s) [46]).2.2
def b19 (s : List UInt8) : Bool := decide (0 < cntC 46 (bf s)) || (bp s && decide (bf s = []))
def b29 (s : List UInt8) (i : Nat) : Bool := decide (i < (rs2 s).w.length) && decide ((rs2 s).w.getD i 0 ≠ 44)
def b37 (s : List UInt8) (i : Nat) : Bool := decide (1 < (szZ (rs2 s).w).length) && decide ((szZ (rs2 s).w).getD i 0 = 0)
def g1 (s : List UInt8) : Num := if 1 < (szZ (rs2 s).w).length then { (rs2 s).p with pr := (szZ (rs2 s).w).getD ((szZ (rs2 s).w).length - 1) 0, sc := (szZ (rs2 s).w).getD ((szZ (rs2 s).w).length - 1) 0 } else (rs2 s).p
def b47 (s : List UInt8) : Bool := (rs3 s).pt || decide (0 < cntC 48 (rs3 s).w)
def b55 (s : List UInt8) : Bool := decide (rowsF 35 48 48 0 (rs3 s).w ≠ []) || decide (rowsF 48 35 35 0 (rs3 s).f ≠ [])
def dg2 (s : List UInt8) : Num := { dg1 s with inc := dropP (· == 48) (flt (wf s)) }
def b65 (s : List UInt8) : Bool := decide ((dg2 s).inc ≠ []) && (decide ((cntC 48 (rs3 s).f : Int) < (rs3 s).f.length) || numS s)
def b69 (s : List UInt8) : Bool := numS s && (decide (1 < (szZ (rs2 s).w).length) || (decide (0 < (rs4 s).p.ms) && (bAt (rs3 s).w 0 == 35)))
def annA (s : List UInt8) (rest : Ann) : Ann :=
  .cut 7 (PLift (numS s = true)) (fun _ => ⟨[(2, .one (.ptr 16 0)), (4, .one (.ptr 17 0)), (7, .one (.bool (numS s))), (5, .one (.str (numB s))), (6, .one (.str (xt s)))], [(16, some (.cells 25 zsc)), (17, some (.cells 25 (xp s).sc'))], 18⟩)
    (fun _ => .cut 8 Unit (fun _ => ⟨[(2, .one (.ptr 16 0)), (4, .one (.ptr 17 0)), (7, .one (.bool (numS s))), (5, .one (.str (numB s))), (6, .one (.str (xt s))), (48, .one (.bool (b7 s)))], [(16, some (.cells 25 zsc)), (17, some (.cells 25 (xp s).sc'))], 18⟩) (fun _ => .nil) .nil) rest
def annB (s : List UInt8) : Ann :=
  .loop 13 (OB s) (fun i => ⟨[(2, .one (.ptr 16 0)), (4, .one (.ptr 17 0)), (7, .one (.bool (numS s))), (5, .one (.str (numB s))), (8, .one (.int .i64 i.1))], [(16, some (.cells 25 zsc)), (17, some (.cells 25 (rs1 s).p.sc'))], 18⟩) (fun i => (numB s).length - i.1)
    (fun i => .cut 17 Unit (fun _ => ⟨[(2, .one (.ptr 16 0)), (4, .one (.ptr 17 0)), (7, .one (.bool (numS s))), (5, .one (.str (numB s))), (8, .one (.int .i64 i.1)), (88, .one (.bool (isOdd (bAt (numB s) i.1))))], [(16, some (.cells 25 zsc)), (17, some (.cells 25 (rs1 s).p.sc'))], 18⟩) (fun _ => .nil) .nil) .nil
def annC (s : List UInt8) : Ann :=
  .loop 27 (E27 s) (fun x => ⟨[(2, .one (.ptr 16 0)), (4, .one (.ptr 17 0)), (7, .one (.bool (numS s))), (10, .one (.str (rs2 s).w)), (11, .one (.str (rs2 s).f)), (12, .one (.bool (rs2 s).pt)), (13, .one (.slc 18)), (14, .one (.str x.pl)), (15, .one (.int .i64 x.n)), (16, .one (.int .i64 x.i))], [(16, some (.cells 25 zsc)), (17, some (.cells 25 (rs2 s).p.sc')), (18, some (.row 3 (.ints .i64 x.ps)))], 19⟩) (fun x => (rs2 s).w.length + 1 - x.i)
    (fun x => .cut 30 Unit (fun _ => ⟨[(2, .one (.ptr 16 0)), (4, .one (.ptr 17 0)), (7, .one (.bool (numS s))), (10, .one (.str (rs2 s).w)), (11, .one (.str (rs2 s).f)), (12, .one (.bool (rs2 s).pt)), (13, .one (.slc 18)), (14, .one (.str x.pl)), (15, .one (.int .i64 x.n)), (16, .one (.int .i64 x.i)), (126, .one (.bool (b29 s x.i)))], [(16, some (.cells 25 zsc)), (17, some (.cells 25 (rs2 s).p.sc')), (18, some (.row 3 (.ints .i64 x.ps)))], 19⟩) (fun _ => .nil) .nil) .nil
def annD (s : List UInt8) : Ann :=
  .loop 35 (I35 s) (fun i => ⟨[(2, .one (.ptr 16 0)), (4, .one (.ptr 17 0)), (7, .one (.bool (numS s))), (10, .one (.str (rs2 s).w)), (11, .one (.str (rs2 s).f)), (12, .one (.bool (rs2 s).pt)), (13, .one (.slc 18)), (14, .one (.str (splitC 44 (rs2 s).w).flatten)), (17, .one (.int .i64 i.1))], [(16, some (.cells 25 zsc)), (17, some (.cells 25 (rs2 s).p.sc')), (18, some (.row 3 (.ints .i64 (szZ (rs2 s).w))))], 19⟩) (fun i => (szZ (rs2 s).w).length - i.1)
    (fun i => .cut 38 Unit (fun _ => ⟨[(2, .one (.ptr 16 0)), (4, .one (.ptr 17 0)), (7, .one (.bool (numS s))), (10, .one (.str (rs2 s).w)), (11, .one (.str (rs2 s).f)), (12, .one (.bool (rs2 s).pt)), (13, .one (.slc 18)), (14, .one (.str (splitC 44 (rs2 s).w).flatten)), (17, .one (.int .i64 i.1)), (155, .one (.bool (b37 s i.1)))], [(16, some (.cells 25 zsc)), (17, some (.cells 25 (rs2 s).p.sc')), (18, some (.row 3 (.ints .i64 (szZ (rs2 s).w))))], 19⟩) (fun _ => .nil) .nil) .nil
def annE (s : List UInt8) (rest : Ann) : Ann :=
  .cut 48 Unit (fun _ => ⟨[(2, .one (.ptr 16 0)), (4, .one (.ptr 17 0)), (7, .one (.bool (numS s))), (14, .one (.str (rs3 s).w)), (11, .one (.str (rs3 s).f)), (12, .one (.bool (rs3 s).pt)), (13, .one (.slc 18)), (198, .one (.bool (b47 s)))], [(16, some (.cells 25 zsc)), (17, some (.cells 25 (rs3 s).p.sc')), (18, some (.row 3 (.ints .i64 (szZ (rs2 s).w))))], 19⟩) (fun _ => .nil)
  (.cut 51 (PLift (N51 s)) (fun _ => ⟨[(2, .one (.ptr 16 0)), (4, .one (.ptr 17 0)), (7, .one (.bool (numS s))), (14, .one (.str (rs3 s).w)), (11, .one (.str (rs3 s).f)), (12, .one (.bool (rs3 s).pt)), (13, .one (.slc 18))], [(16, some (.cells 25 zsc)), (17, some (.cells 25 (rs3 s).p.sc')), (18, some (.row 3 (.ints .i64 (szZ (rs2 s).w))))], 19⟩)
    (fun _ => .loop 53 (J53 s) (fun j => ⟨[(2, .one (.ptr 16 0)), (4, .one (.ptr 17 0)), (7, .one (.bool (numS s))), (14, .one (.str (rs3 s).w)), (11, .one (.str (rs3 s).f)), (12, .one (.bool (rs3 s).pt)), (13, .one (.slc 18))], [(16, some (.cells 25 zsc)), (17, some (.cells 25 ({ (rs3 s).p with ms := (cntC 64 (rs3 s).w : Int), xs := ((rs3 s).w.length : Int) - (j.1 : Int) } : Num).sc')), (18, some (.row 3 (.ints .i64 (szZ (rs2 s).w))))], 19⟩) (fun j => (rs3 s).w.length - j.1) (fun _ => .nil) .nil)
  (.cut 56 Unit (fun _ => ⟨[(2, .one (.ptr 16 0)), (4, .one (.ptr 17 0)), (7, .one (.bool (numS s))), (14, .one (.str (rs3 s).w)), (11, .one (.str (rs3 s).f)), (12, .one (.bool (rs3 s).pt)), (13, .one (.slc 18)), (18, .one (.str (wf s))), (229, .one (.bool (b55 s)))], [(16, some (.cells 25 zsc)), (17, some (.cells 25 (rs3 s).p.sc')), (18, some (.row 3 (.ints .i64 (szZ (rs2 s).w))))], 19⟩) (fun _ => .nil)
  (.cut 57 (PLift (N57 s)) (fun _ => ⟨[(2, .one (.ptr 16 0)), (4, .one (.ptr 17 0)), (7, .one (.bool (numS s))), (14, .one (.str (rs3 s).w)), (11, .one (.str (rs3 s).f)), (12, .one (.bool (rs3 s).pt)), (13, .one (.slc 18)), (18, .one (.str (wf s)))], [(16, some (.cells 25 zsc)), (17, some (.cells 25 (rs3 s).p.sc')), (18, some (.row 3 (.ints .i64 (szZ (rs2 s).w))))], 19⟩)
    (fun _ => .loop 60 (Upto (wf s)) (fun i => ⟨[(2, .one (.ptr 16 0)), (4, .one (.ptr 17 0)), (7, .one (.bool (numS s))), (14, .one (.str (rs3 s).w)), (11, .one (.str (rs3 s).f)), (12, .one (.bool (rs3 s).pt)), (13, .one (.slc 18)), (18, .one (.str (wf s))), (19, .one (.str (flt ((wf s).take i.1)))), (20, .one (.int .i64 i.1))], [(16, some (.cells 25 zsc)), (17, some (.cells 25 (dg1 s).sc')), (18, some (.row 3 (.ints .i64 (szZ (rs2 s).w))))], 19⟩) (fun i => (wf s).length - i.1) (fun _ => .nil)
      (.cut 64 (PLift (N57 s)) (fun _ => ⟨[(2, .one (.ptr 16 0)), (4, .one (.ptr 17 0)), (7, .one (.bool (numS s))), (14, .one (.str (rs3 s).w)), (11, .one (.str (rs3 s).f)), (12, .one (.bool (rs3 s).pt)), (13, .one (.slc 18)), (19, .one (.str (flt (wf s))))], [(16, some (.cells 25 zsc)), (17, some (.cells 25 (dg1 s).sc')), (18, some (.row 3 (.ints .i64 (szZ (rs2 s).w))))], 19⟩)
        (fun _ => .cut 66 Unit (fun _ => ⟨[(2, .one (.ptr 16 0)), (4, .one (.ptr 17 0)), (7, .one (.bool (numS s))), (14, .one (.str (rs3 s).w)), (11, .one (.str (rs3 s).f)), (12, .one (.bool (rs3 s).pt)), (13, .one (.slc 18)), (272, .one (.bool (b65 s)))], [(16, some (.cells 25 zsc)), (17, some (.cells 25 (dg2 s).sc')), (18, some (.row 3 (.ints .i64 (szZ (rs2 s).w))))], 19⟩) (fun _ => .nil) .nil) .nil)) rest)))
def annF (s : List UInt8) : Ann :=
  .cut 70 Unit (fun _ => ⟨[(2, .one (.ptr 16 0)), (4, .one (.ptr 17 0)), (7, .one (.bool (numS s))), (14, .one (.str (rs3 s).w)), (11, .one (.str (rs3 s).f)), (12, .one (.bool (rs3 s).pt)), (13, .one (.slc 18)), (293, .one (.bool (b69 s)))], [(16, some (.cells 25 zsc)), (17, some (.cells 25 (rs4 s).p.sc')), (18, some (.row 3 (.ints .i64 (szZ (rs2 s).w))))], 19⟩) (fun _ => .nil)
  (.cut 71 (PLift (N69 s ∧ b69 s = false)) (fun _ => ⟨[(2, .one (.ptr 16 0)), (4, .one (.ptr 17 0)), (7, .one (.bool (numS s))), (14, .one (.str (rs3 s).w)), (11, .one (.str (rs3 s).f)), (12, .one (.bool (rs3 s).pt)), (13, .one (.slc 18))], [(16, some (.cells 25 zsc)), (17, some (.cells 25 (rs4 s).p.sc')), (18, some (.row 3 (.ints .i64 (szZ (rs2 s).w))))], 19⟩) (fun _ => .turns 72 8 (fun _ => .nil) .nil) .nil)
def annN (s : List UInt8) : Ann :=
  annA s (.cut 12 (PLift ((rs1 s).c = 0)) (fun _ => ⟨[(2, .one (.ptr 16 0)), (4, .one (.ptr 17 0)), (7, .one (.bool (numS s))), (5, .one (.str (numB s)))], [(16, some (.cells 25 zsc)), (17, some (.cells 25 (rs1 s).p.sc'))], 18⟩)
  (fun _ => .cut 18 (PLift ((rs1 s).c = 0 ∧ anyP isOdd (numB s) = false)) (fun _ => ⟨[(2, .one (.ptr 16 0)), (4, .one (.ptr 17 0)), (7, .one (.bool (numS s))), (5, .one (.str (numB s)))], [(16, some (.cells 25 zsc)), (17, some (.cells 25 (rs1 s).p.sc'))], 18⟩)
  (fun _ => .cut 20 Unit (fun _ => ⟨[(2, .one (.ptr 16 0)), (4, .one (.ptr 17 0)), (7, .one (.bool (numS s))), (10, .one (.str (bw s))), (11, .one (.str (bf s))), (12, .one (.bool (bp s))), (105, .one (.bool (b19 s)))], [(16, some (.cells 25 zsc)), (17, some (.cells 25 (rs1 s).p.sc'))], 18⟩) (fun _ => .nil)
  (.cut 23 (PLift (N23 s)) (fun _ => ⟨[(2, .one (.ptr 16 0)), (4, .one (.ptr 17 0)), (7, .one (.bool (numS s))), (10, .one (.str (rs2 s).w)), (11, .one (.str (rs2 s).f)), (12, .one (.bool (rs2 s).pt))], [(16, some (.cells 25 zsc)), (17, some (.cells 25 (rs2 s).p.sc'))], 18⟩)
  (fun _ => .cut 34 (PLift (N23 s)) (fun _ => ⟨[(2, .one (.ptr 16 0)), (4, .one (.ptr 17 0)), (7, .one (.bool (numS s))), (10, .one (.str (rs2 s).w)), (11, .one (.str (rs2 s).f)), (12, .one (.bool (rs2 s).pt)), (13, .one (.slc 18)), (14, .one (.str (splitC 44 (rs2 s).w).flatten))], [(16, some (.cells 25 zsc)), (17, some (.cells 25 (rs2 s).p.sc')), (18, some (.row 3 (.ints .i64 (szZ (rs2 s).w))))], 19⟩)
  (fun _ => .cut 39 (PLift (emptyIn (splitC 44 (rs2 s).w) = false)) (fun _ => ⟨[(2, .one (.ptr 16 0)), (4, .one (.ptr 17 0)), (7, .one (.bool (numS s))), (10, .one (.str (rs2 s).w)), (11, .one (.str (rs2 s).f)), (12, .one (.bool (rs2 s).pt)), (13, .one (.slc 18)), (14, .one (.str (splitC 44 (rs2 s).w).flatten))], [(16, some (.cells 25 zsc)), (17, some (.cells 25 (rs2 s).p.sc')), (18, some (.row 3 (.ints .i64 (szZ (rs2 s).w))))], 19⟩)
  (fun _ => .cut 41 (PLift (emptyIn (splitC 44 (rs2 s).w) = false)) (fun _ => ⟨[(2, .one (.ptr 16 0)), (4, .one (.ptr 17 0)), (7, .one (.bool (numS s))), (10, .one (.str (rs2 s).w)), (11, .one (.str (rs2 s).f)), (12, .one (.bool (rs2 s).pt)), (13, .one (.slc 18)), (14, .one (.str (splitC 44 (rs2 s).w).flatten))], [(16, some (.cells 25 zsc)), (17, some (.cells 25 (g1 s).sc')), (18, some (.row 3 (.ints .i64 (szZ (rs2 s).w))))], 19⟩)
  (fun _ => .cut 43 (PLift (N43 s)) (fun _ => ⟨[(2, .one (.ptr 16 0)), (4, .one (.ptr 17 0)), (7, .one (.bool (numS s))), (14, .one (.str (rs3 s).w)), (11, .one (.str (rs3 s).f)), (12, .one (.bool (rs3 s).pt)), (13, .one (.slc 18))], [(16, some (.cells 25 zsc)), (17, some (.cells 25 (rs3 s).p.sc')), (18, some (.row 3 (.ints .i64 (szZ (rs2 s).w))))], 19⟩)
  (fun _ => .cut 69 (PLift (N69 s)) (fun _ => ⟨[(2, .one (.ptr 16 0)), (4, .one (.ptr 17 0)), (7, .one (.bool (numS s))), (14, .one (.str (rs3 s).w)), (11, .one (.str (rs3 s).f)), (12, .one (.bool (rs3 s).pt)), (13, .one (.slc 18))], [(16, some (.cells 25 zsc)), (17, some (.cells 25 (rs4 s).p.sc')), (18, some (.row 3 (.ints .i64 (szZ (rs2 s).w))))], 19⟩) (fun _ => annF s) (annE s .nil)) .nil) .nil) (annD s)) (annC s)) .nil)) (annB s)) .nil)
def sp_r3num : FSpec := ⟨[], fun | [.one (.str s)] => some ([s.length ≤ 1000000000], .tup [(true, (numT s).1.pcs), (false, [.int .i64 (numT s).2])]) | _ => none⟩
theorem vc_r3num (s : List UInt8) : vcP [(40, sp_r3cut), (42, sp_r3count), (41, sp_r3strip), (43, sp_r3rows)] [] misc Tryz.f18 (annN s) [.one (.str s)] (.tup [(true, (numT s).1.pcs), (false, [.int .i64 (numT s).2])]) = (letI v0 := (([] : List Itm) = [] ∧ ([] : List Itm) = [] ∧ false = false ∧ ([] : List Itm) = [] ∧ ([] : List Itm) = [] ∧ (0 : Int) = Num.mi (numT s).1 ∧ (0 : Int) = Num.xi (numT s).1 ∧ (0 : Int) = Num.mf (numT s).1 ∧ (0 : Int) = Num.xf (numT s).1 ∧ (0 : Int) = Num.ms (numT s).1 ∧ (0 : Int) = Num.xs (numT s).1 ∧ (0 : Int) = Num.pr (numT s).1 ∧ (0 : Int) = Num.sc (numT s).1 ∧ [] = Num.inc (numT s).1 ∧ false = Num.ps (numT s).1 ∧ (0 : Int) = Num.me (numT s).1 ∧ false = Num.px (numT s).1 ∧ (0 : Int) = (0 : Int) ∧ (0 : Int) = (0 : Int) ∧ (0 : Int) = (0 : Int)); letI v1 := (↑(List.length (szZ (RS.w (rs2 s)))) : Int); letI v2 := (splitC (44 : UInt8) (RS.w (rs2 s))); letI v3 := (↑(List.length (RS.w (rs3 s))) : Int); letI v4 := (↑(List.length (Num.inc (RS.p (rs4 s)))) : Int); letI v5 := (v0 ∧ (8 : Int) = (numT s).2); letI v6 := ((0 : Int) + (1 : Int) + (1 : Int) + (1 : Int) + (1 : Int) + (1 : Int) + (1 : Int)); letI v7 := (↑(cntC (64 : Int) (RS.w (rs3 s))) : Int); letI v8 := ((0 : Int) + (1 : Int) + (1 : Int) + (1 : Int) + (1 : Int) + (1 : Int)); letI v9 := (v0 ∧ (4 : Int) = (numT s).2); letI v10 := ((0 : Int) + (1 : Int) + (1 : Int) + (1 : Int) + (1 : Int)); letI v11 := (↑(List.length (RS.w (rs2 s))) : Int); letI v12 := ((0 : Int) ≤ (35 : Int) ∧ (35 : Int) < (256 : Int)); letI v13 := ((0 : Int) + (1 : Int) + (1 : Int) + (1 : Int)); letI v14 := (↑(List.length (cutI (69 : Int) s).2.1) : Int); letI v15 := (List.getD (szZ (RS.w (rs2 s))) (Int.toNat (v1 - (1 : Int))) (0 : Int)); (List.length s ≤ (1000000000000 : Nat) ∧ br (cutI (69 : Int) s).2.2 (br (decide (v14 > (0 : Int))) (((0 : Int) ≤ (0 : Int) ∧ (0 : Int) < v14) ∧ br (bAt (cutI (69 : Int) s).2.1 (0 : Int) == (43 : Int)) (((0 : Int) ≤ (1 : Int) ∧ (1 : Int) ≤ v14) ∧ ∃ (j : PLift (numS s = true)), (cutI (69 : Int) s).2.2 = numS s ∧ (cutI (69 : Int) s).1 = numB s ∧ List.drop (Int.toNat (1 : Int)) (cutI (69 : Int) s).2.1 = xt s ∧ EqL zsc [SC.nils, SC.nils, SC.ff, SC.nils, SC.nils, SC.int IntKind.i64 (0 : Int), SC.int IntKind.i64 (0 : Int), SC.int IntKind.i64 (0 : Int), SC.int IntKind.i64 (0 : Int), SC.int IntKind.i64 (0 : Int), SC.int IntKind.i64 (0 : Int), SC.int IntKind.i64 (0 : Int), SC.int IntKind.i64 (0 : Int), SC.str [], SC.ff, SC.int IntKind.i64 (0 : Int), SC.ff, SC.int IntKind.i64 (0 : Int), SC.int IntKind.i32 (0 : Int), SC.int IntKind.i64 (0 : Int)] ∧ EqL (Num.sc' (xp s)) [SC.nils, SC.nils, SC.ff, SC.nils, SC.nils, SC.int IntKind.i64 (0 : Int), SC.int IntKind.i64 (0 : Int), SC.int IntKind.i64 (0 : Int), SC.int IntKind.i64 (0 : Int), SC.int IntKind.i64 (0 : Int), SC.int IntKind.i64 (0 : Int), SC.int IntKind.i64 (0 : Int), SC.int IntKind.i64 (0 : Int), SC.str [], SC.ff, SC.int IntKind.i64 (0 : Int), SC.tt, SC.int IntKind.i64 (0 : Int), SC.int IntKind.i32 (0 : Int), SC.int IntKind.i64 (0 : Int)]) (∃ (j : PLift (numS s = true)), (cutI (69 : Int) s).2.2 = numS s ∧ (cutI (69 : Int) s).1 = numB s ∧ (cutI (69 : Int) s).2.1 = xt s ∧ EqL zsc [SC.nils, SC.nils, SC.ff, SC.nils, SC.nils, SC.int IntKind.i64 (0 : Int), SC.int IntKind.i64 (0 : Int), SC.int IntKind.i64 (0 : Int), SC.int IntKind.i64 (0 : Int), SC.int IntKind.i64 (0 : Int), SC.int IntKind.i64 (0 : Int), SC.int IntKind.i64 (0 : Int), SC.int IntKind.i64 (0 : Int), SC.str [], SC.ff, SC.int IntKind.i64 (0 : Int), SC.ff, SC.int IntKind.i64 (0 : Int), SC.int IntKind.i32 (0 : Int), SC.int IntKind.i64 (0 : Int)] ∧ EqL (Num.sc' (xp s)) [SC.nils, SC.nils, SC.ff, SC.nils, SC.nils, SC.int IntKind.i64 (0 : Int), SC.int IntKind.i64 (0 : Int), SC.int IntKind.i64 (0 : Int), SC.int IntKind.i64 (0 : Int), SC.int IntKind.i64 (0 : Int), SC.int IntKind.i64 (0 : Int), SC.int IntKind.i64 (0 : Int), SC.int IntKind.i64 (0 : Int), SC.str [], SC.ff, SC.int IntKind.i64 (0 : Int), SC.ff, SC.int IntKind.i64 (0 : Int), SC.int IntKind.i32 (0 : Int), SC.int IntKind.i64 (0 : Int)])) (∃ (j : PLift (numS s = true)), (cutI (69 : Int) s).2.2 = numS s ∧ (cutI (69 : Int) s).1 = numB s ∧ (cutI (69 : Int) s).2.1 = xt s ∧ EqL zsc [SC.nils, SC.nils, SC.ff, SC.nils, SC.nils, SC.int IntKind.i64 (0 : Int), SC.int IntKind.i64 (0 : Int), SC.int IntKind.i64 (0 : Int), SC.int IntKind.i64 (0 : Int), SC.int IntKind.i64 (0 : Int), SC.int IntKind.i64 (0 : Int), SC.int IntKind.i64 (0 : Int), SC.int IntKind.i64 (0 : Int), SC.str [], SC.ff, SC.int IntKind.i64 (0 : Int), SC.ff, SC.int IntKind.i64 (0 : Int), SC.int IntKind.i32 (0 : Int), SC.int IntKind.i64 (0 : Int)] ∧ EqL (Num.sc' (xp s)) [SC.nils, SC.nils, SC.ff, SC.nils, SC.nils, SC.int IntKind.i64 (0 : Int), SC.int IntKind.i64 (0 : Int), SC.int IntKind.i64 (0 : Int), SC.int IntKind.i64 (0 : Int), SC.int IntKind.i64 (0 : Int), SC.int IntKind.i64 (0 : Int), SC.int IntKind.i64 (0 : Int), SC.int IntKind.i64 (0 : Int), SC.str [], SC.ff, SC.int IntKind.i64 (0 : Int), SC.ff, SC.int IntKind.i64 (0 : Int), SC.int IntKind.i32 (0 : Int), SC.int IntKind.i64 (0 : Int)]) ∧ ∀ (j : PLift (numS s = true)), br (decide (xt s = Array.toList #[])) (∃ (j : Unit), numS s = numS s ∧ numB s = numB s ∧ xt s = xt s ∧ true = b7 s ∧ EqL zsc zsc ∧ EqL (Num.sc' (xp s)) (Num.sc' (xp s))) (List.length (xt s) ≤ (1000000000000 : Nat) ∧ ∃ (j : Unit), numS s = numS s ∧ numB s = numB s ∧ xt s = xt s ∧ (!decide (dropP (fun (x : Int) => x == (48 : Int)) (xt s) = Array.toList #[])) = b7 s ∧ EqL zsc zsc ∧ EqL (Num.sc' (xp s)) (Num.sc' (xp s))) ∧ ∀ (j : Unit), br (b7 s) v9 (br (decide ((↑(List.length (xt s)) : Int) > (9 : Int))) v5 (∃ (j : PLift (RS.c (rs1 s) = (0 : Int))), numS s = numS s ∧ numB s = numB s ∧ EqL zsc zsc ∧ EqL (Num.sc' (RS.p (rs1 s))) [SC.nils, SC.nils, SC.ff, SC.nils, SC.nils, SC.int IntKind.i64 (Num.mi (xp s)), SC.int IntKind.i64 (Num.xi (xp s)), SC.int IntKind.i64 (Num.mf (xp s)), SC.int IntKind.i64 (Num.xf (xp s)), SC.int IntKind.i64 (Num.ms (xp s)), SC.int IntKind.i64 (Num.xs (xp s)), SC.int IntKind.i64 (Num.pr (xp s)), SC.int IntKind.i64 (Num.sc (xp s)), SC.str (Num.inc (xp s)), SC.tt, SC.int IntKind.i64 (↑(List.length (xt s)) : Int), SC.bool (Num.px (xp s)), SC.int IntKind.i64 (0 : Int), SC.int IntKind.i32 (0 : Int), SC.int IntKind.i64 (0 : Int)]))) (∃ (j : PLift (RS.c (rs1 s) = (0 : Int))), (cutI (69 : Int) s).2.2 = numS s ∧ (cutI (69 : Int) s).1 = numB s ∧ EqL zsc [SC.nils, SC.nils, SC.ff, SC.nils, SC.nils, SC.int IntKind.i64 (0 : Int), SC.int IntKind.i64 (0 : Int), SC.int IntKind.i64 (0 : Int), SC.int IntKind.i64 (0 : Int), SC.int IntKind.i64 (0 : Int), SC.int IntKind.i64 (0 : Int), SC.int IntKind.i64 (0 : Int), SC.int IntKind.i64 (0 : Int), SC.str [], SC.ff, SC.int IntKind.i64 (0 : Int), SC.ff, SC.int IntKind.i64 (0 : Int), SC.int IntKind.i32 (0 : Int), SC.int IntKind.i64 (0 : Int)] ∧ EqL (Num.sc' (RS.p (rs1 s))) [SC.nils, SC.nils, SC.ff, SC.nils, SC.nils, SC.int IntKind.i64 (0 : Int), SC.int IntKind.i64 (0 : Int), SC.int IntKind.i64 (0 : Int), SC.int IntKind.i64 (0 : Int), SC.int IntKind.i64 (0 : Int), SC.int IntKind.i64 (0 : Int), SC.int IntKind.i64 (0 : Int), SC.int IntKind.i64 (0 : Int), SC.str [], SC.ff, SC.int IntKind.i64 (0 : Int), SC.ff, SC.int IntKind.i64 (0 : Int), SC.int IntKind.i32 (0 : Int), SC.int IntKind.i64 (0 : Int)]) ∧ ∀ (j : PLift (RS.c (rs1 s) = (0 : Int))), ((∃ (x : OB s), numS s = numS s ∧ numB s = numB s ∧ (0 : Int) = (↑(Subtype.val x) : Int) ∧ EqL zsc zsc ∧ EqL (Num.sc' (RS.p (rs1 s))) (Num.sc' (RS.p (rs1 s)))) ∧ ∀ (x : OB s), br (decide ((↑(Subtype.val x) : Int) < (↑(List.length (numB s)) : Int))) (((0 : Int) ≤ (↑(Subtype.val x) : Int) ∧ (↑(Subtype.val x) : Int) < (↑(List.length (numB s)) : Int)) ∧ br (bAt (numB s) (↑(Subtype.val x) : Int) != (35 : Int)) (br (bAt (numB s) (↑(Subtype.val x) : Int) != (64 : Int)) (br (bAt (numB s) (↑(Subtype.val x) : Int) != (44 : Int)) (br (bAt (numB s) (↑(Subtype.val x) : Int) != (46 : Int)) (br (decide (bAt (numB s) (↑(Subtype.val x) : Int) < (48 : Int))) (∃ (j : Unit), numS s = numS s ∧ numB s = numB s ∧ (↑(Subtype.val x) : Int) = (↑(Subtype.val x) : Int) ∧ true = isOdd (bAt (numB s) (↑(Subtype.val x) : Int)) ∧ EqL zsc zsc ∧ EqL (Num.sc' (RS.p (rs1 s))) (Num.sc' (RS.p (rs1 s)))) (∃ (j : Unit), numS s = numS s ∧ numB s = numB s ∧ (↑(Subtype.val x) : Int) = (↑(Subtype.val x) : Int) ∧ decide (bAt (numB s) (↑(Subtype.val x) : Int) > (57 : Int)) = isOdd (bAt (numB s) (↑(Subtype.val x) : Int)) ∧ EqL zsc zsc ∧ EqL (Num.sc' (RS.p (rs1 s))) (Num.sc' (RS.p (rs1 s))))) (∃ (j : Unit), numS s = numS s ∧ numB s = numB s ∧ (↑(Subtype.val x) : Int) = (↑(Subtype.val x) : Int) ∧ false = isOdd (bAt (numB s) (↑(Subtype.val x) : Int)) ∧ EqL zsc zsc ∧ EqL (Num.sc' (RS.p (rs1 s))) (Num.sc' (RS.p (rs1 s))))) (∃ (j : Unit), numS s = numS s ∧ numB s = numB s ∧ (↑(Subtype.val x) : Int) = (↑(Subtype.val x) : Int) ∧ false = isOdd (bAt (numB s) (↑(Subtype.val x) : Int)) ∧ EqL zsc zsc ∧ EqL (Num.sc' (RS.p (rs1 s))) (Num.sc' (RS.p (rs1 s))))) (∃ (j : Unit), numS s = numS s ∧ numB s = numB s ∧ (↑(Subtype.val x) : Int) = (↑(Subtype.val x) : Int) ∧ false = isOdd (bAt (numB s) (↑(Subtype.val x) : Int)) ∧ EqL zsc zsc ∧ EqL (Num.sc' (RS.p (rs1 s))) (Num.sc' (RS.p (rs1 s))))) (∃ (j : Unit), numS s = numS s ∧ numB s = numB s ∧ (↑(Subtype.val x) : Int) = (↑(Subtype.val x) : Int) ∧ false = isOdd (bAt (numB s) (↑(Subtype.val x) : Int)) ∧ EqL zsc zsc ∧ EqL (Num.sc' (RS.p (rs1 s))) (Num.sc' (RS.p (rs1 s)))) ∧ ∀ (j : Unit), br (isOdd (bAt (numB s) (↑(Subtype.val x) : Int))) v9 (inR IntKind.i64 ((↑(Subtype.val x) : Int) + (1 : Int)) ∧ ∃ (x' : OB s), (numS s = numS s ∧ numB s = numB s ∧ (↑(Subtype.val x) : Int) + (1 : Int) = (↑(Subtype.val x') : Int) ∧ EqL zsc zsc ∧ EqL (Num.sc' (RS.p (rs1 s))) (Num.sc' (RS.p (rs1 s)))) ∧ List.length (numB s) - Subtype.val x' < List.length (numB s) - Subtype.val x)) (∃ (j : PLift (RS.c (rs1 s) = (0 : Int) ∧ anyP isOdd (numB s) = false)), numS s = numS s ∧ numB s = numB s ∧ EqL zsc zsc ∧ EqL (Num.sc' (RS.p (rs1 s))) (Num.sc' (RS.p (rs1 s))))) ∧ ∀ (j : PLift (RS.c (rs1 s) = (0 : Int) ∧ anyP isOdd (numB s) = false)), List.length (numB s) ≤ (1000000000000 : Nat) ∧ (List.length (cutI (46 : Int) (numB s)).2.1 ≤ (1000000000000 : Nat) ∧ br (decide ((↑(cntC (46 : Int) (cutI (46 : Int) (numB s)).2.1) : Int) > (0 : Int))) (∃ (j : Unit), numS s = numS s ∧ (cutI (46 : Int) (numB s)).1 = bw s ∧ (cutI (46 : Int) (numB s)).2.1 = bf s ∧ (cutI (46 : Int) (numB s)).2.2 = bp s ∧ true = b19 s ∧ EqL zsc zsc ∧ EqL (Num.sc' (RS.p (rs1 s))) (Num.sc' (RS.p (rs1 s)))) (br (cutI (46 : Int) (numB s)).2.2 (∃ (j : Unit), numS s = numS s ∧ (cutI (46 : Int) (numB s)).1 = bw s ∧ (cutI (46 : Int) (numB s)).2.1 = bf s ∧ (cutI (46 : Int) (numB s)).2.2 = bp s ∧ decide ((cutI (46 : Int) (numB s)).2.1 = Array.toList #[]) = b19 s ∧ EqL zsc zsc ∧ EqL (Num.sc' (RS.p (rs1 s))) (Num.sc' (RS.p (rs1 s)))) (∃ (j : Unit), numS s = numS s ∧ (cutI (46 : Int) (numB s)).1 = bw s ∧ (cutI (46 : Int) (numB s)).2.1 = bf s ∧ (cutI (46 : Int) (numB s)).2.2 = bp s ∧ false = b19 s ∧ EqL zsc zsc ∧ EqL (Num.sc' (RS.p (rs1 s))) (Num.sc' (RS.p (rs1 s)))))) ∧ ∀ (j : Unit), br (b19 s) v9 ((List.length (bf s) ≤ (1000000000000 : Nat) ∧ br (decide ((↑(cntC (44 : Int) (bf s)) : Int) > (0 : Int))) (v0 ∧ (5 : Int) = (numT s).2) (∃ (j : PLift (N23 s)), numS s = numS s ∧ bw s = RS.w (rs2 s) ∧ bf s = RS.f (rs2 s) ∧ bp s = RS.pt (rs2 s) ∧ EqL zsc zsc ∧ EqL (Num.sc' (RS.p (rs2 s))) (Num.sc' (RS.p (rs1 s))))) ∧ ∀ (j : PLift (N23 s)), ((∃ (x : E27 s), numS s = numS s ∧ RS.w (rs2 s) = RS.w (rs2 s) ∧ RS.f (rs2 s) = RS.f (rs2 s) ∧ RS.pt (rs2 s) = RS.pt (rs2 s) ∧ Array.toList #[] = E27.pl x ∧ (0 : Int) = E27.n x ∧ (0 : Int) = (↑(E27.i x) : Int) ∧ EqL zsc zsc ∧ EqL (Num.sc' (RS.p (rs2 s))) (Num.sc' (RS.p (rs2 s))) ∧ E27.ps x = []) ∧ ∀ (x : E27 s), br (decide ((↑(E27.i x) : Int) ≤ v11)) (br (decide ((↑(E27.i x) : Int) < v11)) (((0 : Int) ≤ (↑(E27.i x) : Int) ∧ (↑(E27.i x) : Int) < v11) ∧ ∃ (j : Unit), numS s = numS s ∧ RS.w (rs2 s) = RS.w (rs2 s) ∧ RS.f (rs2 s) = RS.f (rs2 s) ∧ RS.pt (rs2 s) = RS.pt (rs2 s) ∧ E27.pl x = E27.pl x ∧ E27.n x = E27.n x ∧ (↑(E27.i x) : Int) = (↑(E27.i x) : Int) ∧ (bAt (RS.w (rs2 s)) (↑(E27.i x) : Int) != (44 : Int)) = b29 s (E27.i x) ∧ EqL zsc zsc ∧ EqL (Num.sc' (RS.p (rs2 s))) (Num.sc' (RS.p (rs2 s))) ∧ E27.ps x = E27.ps x) (∃ (j : Unit), numS s = numS s ∧ RS.w (rs2 s) = RS.w (rs2 s) ∧ RS.f (rs2 s) = RS.f (rs2 s) ∧ RS.pt (rs2 s) = RS.pt (rs2 s) ∧ E27.pl x = E27.pl x ∧ E27.n x = E27.n x ∧ (↑(E27.i x) : Int) = (↑(E27.i x) : Int) ∧ false = b29 s (E27.i x) ∧ EqL zsc zsc ∧ EqL (Num.sc' (RS.p (rs2 s))) (Num.sc' (RS.p (rs2 s))) ∧ E27.ps x = E27.ps x) ∧ ∀ (j : Unit), br (b29 s (E27.i x)) (inR IntKind.i64 ((↑(E27.i x) : Int) + (1 : Int)) ∧ ((0 : Int) ≤ (↑(E27.i x) : Int) ∧ (↑(E27.i x) : Int) ≤ (↑(E27.i x) : Int) + (1 : Int) ∧ (↑(E27.i x) : Int) + (1 : Int) ≤ v11) ∧ List.length (E27.pl x) + List.length (List.drop (Int.toNat (↑(E27.i x) : Int)) (List.take (Int.toNat ((↑(E27.i x) : Int) + (1 : Int))) (RS.w (rs2 s)))) ≤ (9223372036854775807 : Nat) ∧ inR IntKind.i64 (E27.n x + (1 : Int)) ∧ inR IntKind.i64 ((↑(E27.i x) : Int) + (1 : Int)) ∧ ∃ (x' : E27 s), (numS s = numS s ∧ RS.w (rs2 s) = RS.w (rs2 s) ∧ RS.f (rs2 s) = RS.f (rs2 s) ∧ RS.pt (rs2 s) = RS.pt (rs2 s) ∧ E27.pl x ++ List.drop (Int.toNat (↑(E27.i x) : Int)) (List.take (Int.toNat ((↑(E27.i x) : Int) + (1 : Int))) (RS.w (rs2 s))) = E27.pl x' ∧ E27.n x + (1 : Int) = E27.n x' ∧ (↑(E27.i x) : Int) + (1 : Int) = (↑(E27.i x') : Int) ∧ EqL zsc zsc ∧ EqL (Num.sc' (RS.p (rs2 s))) (Num.sc' (RS.p (rs2 s))) ∧ E27.ps x = E27.ps x') ∧ List.length (RS.w (rs2 s)) + (1 : Nat) - E27.i x' < List.length (RS.w (rs2 s)) + (1 : Nat) - E27.i x) ((List.length (E27.ps x) + (1 : Nat)) * (8 : Nat) ≤ (140737488355328 : Nat) ∧ inR IntKind.i64 ((↑(E27.i x) : Int) + (1 : Int)) ∧ ∃ (x' : E27 s), (numS s = numS s ∧ RS.w (rs2 s) = RS.w (rs2 s) ∧ RS.f (rs2 s) = RS.f (rs2 s) ∧ RS.pt (rs2 s) = RS.pt (rs2 s) ∧ E27.pl x = E27.pl x' ∧ (0 : Int) = E27.n x' ∧ (↑(E27.i x) : Int) + (1 : Int) = (↑(E27.i x') : Int) ∧ EqL zsc zsc ∧ EqL (Num.sc' (RS.p (rs2 s))) (Num.sc' (RS.p (rs2 s))) ∧ E27.ps x ++ [E27.n x] = E27.ps x') ∧ List.length (RS.w (rs2 s)) + (1 : Nat) - E27.i x' < List.length (RS.w (rs2 s)) + (1 : Nat) - E27.i x)) (∃ (j : PLift (N23 s)), numS s = numS s ∧ RS.w (rs2 s) = RS.w (rs2 s) ∧ RS.f (rs2 s) = RS.f (rs2 s) ∧ RS.pt (rs2 s) = RS.pt (rs2 s) ∧ E27.pl x = List.flatten v2 ∧ EqL zsc zsc ∧ EqL (Num.sc' (RS.p (rs2 s))) (Num.sc' (RS.p (rs2 s))) ∧ E27.ps x = szZ (RS.w (rs2 s)))) ∧ ∀ (j : PLift (N23 s)), ((∃ (x : I35 s), numS s = numS s ∧ RS.w (rs2 s) = RS.w (rs2 s) ∧ RS.f (rs2 s) = RS.f (rs2 s) ∧ RS.pt (rs2 s) = RS.pt (rs2 s) ∧ List.flatten v2 = List.flatten v2 ∧ (0 : Int) = (↑(Subtype.val x) : Int) ∧ EqL zsc zsc ∧ EqL (Num.sc' (RS.p (rs2 s))) (Num.sc' (RS.p (rs2 s))) ∧ szZ (RS.w (rs2 s)) = szZ (RS.w (rs2 s))) ∧ ∀ (x : I35 s), br (decide ((↑(Subtype.val x) : Int) < v1)) (br (decide (v1 > (1 : Int))) (((0 : Int) ≤ (↑(Subtype.val x) : Int) ∧ (↑(Subtype.val x) : Int) < v1) ∧ Int.toNat (↑(Subtype.val x) : Int) < List.length (szZ (RS.w (rs2 s))) ∧ ∃ (j : Unit), numS s = numS s ∧ RS.w (rs2 s) = RS.w (rs2 s) ∧ RS.f (rs2 s) = RS.f (rs2 s) ∧ RS.pt (rs2 s) = RS.pt (rs2 s) ∧ List.flatten v2 = List.flatten v2 ∧ (↑(Subtype.val x) : Int) = (↑(Subtype.val x) : Int) ∧ (List.getD (szZ (RS.w (rs2 s))) (Int.toNat (↑(Subtype.val x) : Int)) (0 : Int) == (0 : Int)) = b37 s (Subtype.val x) ∧ EqL zsc zsc ∧ EqL (Num.sc' (RS.p (rs2 s))) (Num.sc' (RS.p (rs2 s))) ∧ szZ (RS.w (rs2 s)) = szZ (RS.w (rs2 s))) (∃ (j : Unit), numS s = numS s ∧ RS.w (rs2 s) = RS.w (rs2 s) ∧ RS.f (rs2 s) = RS.f (rs2 s) ∧ RS.pt (rs2 s) = RS.pt (rs2 s) ∧ List.flatten v2 = List.flatten v2 ∧ (↑(Subtype.val x) : Int) = (↑(Subtype.val x) : Int) ∧ false = b37 s (Subtype.val x) ∧ EqL zsc zsc ∧ EqL (Num.sc' (RS.p (rs2 s))) (Num.sc' (RS.p (rs2 s))) ∧ szZ (RS.w (rs2 s)) = szZ (RS.w (rs2 s))) ∧ ∀ (j : Unit), br (b37 s (Subtype.val x)) (v0 ∧ (5 : Int) = (numT s).2) (inR IntKind.i64 ((↑(Subtype.val x) : Int) + (1 : Int)) ∧ ∃ (x' : I35 s), (numS s = numS s ∧ RS.w (rs2 s) = RS.w (rs2 s) ∧ RS.f (rs2 s) = RS.f (rs2 s) ∧ RS.pt (rs2 s) = RS.pt (rs2 s) ∧ List.flatten v2 = List.flatten v2 ∧ (↑(Subtype.val x) : Int) + (1 : Int) = (↑(Subtype.val x') : Int) ∧ EqL zsc zsc ∧ EqL (Num.sc' (RS.p (rs2 s))) (Num.sc' (RS.p (rs2 s))) ∧ szZ (RS.w (rs2 s)) = szZ (RS.w (rs2 s))) ∧ List.length (szZ (RS.w (rs2 s))) - Subtype.val x' < List.length (szZ (RS.w (rs2 s))) - Subtype.val x)) (∃ (j : PLift (emptyIn v2 = false)), numS s = numS s ∧ RS.w (rs2 s) = RS.w (rs2 s) ∧ RS.f (rs2 s) = RS.f (rs2 s) ∧ RS.pt (rs2 s) = RS.pt (rs2 s) ∧ List.flatten v2 = List.flatten v2 ∧ EqL zsc zsc ∧ EqL (Num.sc' (RS.p (rs2 s))) (Num.sc' (RS.p (rs2 s))) ∧ szZ (RS.w (rs2 s)) = szZ (RS.w (rs2 s)))) ∧ ∀ (j : PLift (emptyIn v2 = false)), br (decide (v1 > (1 : Int))) (inR IntKind.i64 (v1 - (1 : Int)) ∧ ((0 : Int) ≤ v1 - (1 : Int) ∧ v1 - (1 : Int) < v1) ∧ Int.toNat (v1 - (1 : Int)) < List.length (szZ (RS.w (rs2 s))) ∧ inR IntKind.i64 (v1 - (1 : Int)) ∧ ((0 : Int) ≤ v1 - (1 : Int) ∧ v1 - (1 : Int) < v1) ∧ Int.toNat (v1 - (1 : Int)) < List.length (szZ (RS.w (rs2 s))) ∧ ∃ (j : PLift (emptyIn v2 = false)), numS s = numS s ∧ RS.w (rs2 s) = RS.w (rs2 s) ∧ RS.f (rs2 s) = RS.f (rs2 s) ∧ RS.pt (rs2 s) = RS.pt (rs2 s) ∧ List.flatten v2 = List.flatten v2 ∧ EqL zsc zsc ∧ EqL (Num.sc' (g1 s)) [SC.nils, SC.nils, SC.ff, SC.nils, SC.nils, SC.int IntKind.i64 (Num.mi (RS.p (rs2 s))), SC.int IntKind.i64 (Num.xi (RS.p (rs2 s))), SC.int IntKind.i64 (Num.mf (RS.p (rs2 s))), SC.int IntKind.i64 (Num.xf (RS.p (rs2 s))), SC.int IntKind.i64 (Num.ms (RS.p (rs2 s))), SC.int IntKind.i64 (Num.xs (RS.p (rs2 s))), SC.int IntKind.i64 v15, SC.int IntKind.i64 v15, SC.str (Num.inc (RS.p (rs2 s))), SC.bool (Num.ps (RS.p (rs2 s))), SC.int IntKind.i64 (Num.me (RS.p (rs2 s))), SC.bool (Num.px (RS.p (rs2 s))), SC.int IntKind.i64 (0 : Int), SC.int IntKind.i32 (0 : Int), SC.int IntKind.i64 (0 : Int)] ∧ szZ (RS.w (rs2 s)) = szZ (RS.w (rs2 s))) (∃ (j : PLift (emptyIn v2 = false)), numS s = numS s ∧ RS.w (rs2 s) = RS.w (rs2 s) ∧ RS.f (rs2 s) = RS.f (rs2 s) ∧ RS.pt (rs2 s) = RS.pt (rs2 s) ∧ List.flatten v2 = List.flatten v2 ∧ EqL zsc zsc ∧ EqL (Num.sc' (g1 s)) (Num.sc' (RS.p (rs2 s))) ∧ szZ (RS.w (rs2 s)) = szZ (RS.w (rs2 s))) ∧ ∀ (j : PLift (emptyIn v2 = false)), br (decide (v1 > (2 : Int))) (inR IntKind.i64 (v1 - (2 : Int)) ∧ ((0 : Int) ≤ v1 - (2 : Int) ∧ v1 - (2 : Int) < v1) ∧ Int.toNat (v1 - (2 : Int)) < List.length (szZ (RS.w (rs2 s))) ∧ ∃ (j : PLift (N43 s)), numS s = numS s ∧ List.flatten v2 = RS.w (rs3 s) ∧ RS.f (rs2 s) = RS.f (rs3 s) ∧ RS.pt (rs2 s) = RS.pt (rs3 s) ∧ EqL zsc zsc ∧ EqL (Num.sc' (RS.p (rs3 s))) [SC.nils, SC.nils, SC.ff, SC.nils, SC.nils, SC.int IntKind.i64 (Num.mi (g1 s)), SC.int IntKind.i64 (Num.xi (g1 s)), SC.int IntKind.i64 (Num.mf (g1 s)), SC.int IntKind.i64 (Num.xf (g1 s)), SC.int IntKind.i64 (Num.ms (g1 s)), SC.int IntKind.i64 (Num.xs (g1 s)), SC.int IntKind.i64 (Num.pr (g1 s)), SC.int IntKind.i64 (List.getD (szZ (RS.w (rs2 s))) (Int.toNat (v1 - (2 : Int))) (0 : Int)), SC.str (Num.inc (g1 s)), SC.bool (Num.ps (g1 s)), SC.int IntKind.i64 (Num.me (g1 s)), SC.bool (Num.px (g1 s)), SC.int IntKind.i64 (0 : Int), SC.int IntKind.i32 (0 : Int), SC.int IntKind.i64 (0 : Int)] ∧ szZ (RS.w (rs2 s)) = szZ (RS.w (rs2 s))) (∃ (j : PLift (N43 s)), numS s = numS s ∧ List.flatten v2 = RS.w (rs3 s) ∧ RS.f (rs2 s) = RS.f (rs3 s) ∧ RS.pt (rs2 s) = RS.pt (rs3 s) ∧ EqL zsc zsc ∧ EqL (Num.sc' (RS.p (rs3 s))) (Num.sc' (g1 s)) ∧ szZ (RS.w (rs2 s)) = szZ (RS.w (rs2 s))) ∧ ∀ (j : PLift (N43 s)), List.length (RS.w (rs3 s)) + List.length (RS.f (rs3 s)) ≤ (9223372036854775807 : Nat) ∧ br (decide (RS.w (rs3 s) ++ RS.f (rs3 s) = Array.toList #[])) v9 ((List.length (RS.w (rs3 s) ++ RS.f (rs3 s)) ≤ (1000000000000 : Nat) ∧ br (decide ((↑(cntC (64 : Int) (RS.w (rs3 s) ++ RS.f (rs3 s))) : Int) > (0 : Int))) (br (RS.pt (rs3 s)) (∃ (j : Unit), numS s = numS s ∧ RS.w (rs3 s) = RS.w (rs3 s) ∧ RS.f (rs3 s) = RS.f (rs3 s) ∧ RS.pt (rs3 s) = RS.pt (rs3 s) ∧ true = b47 s ∧ EqL zsc zsc ∧ EqL (Num.sc' (RS.p (rs3 s))) (Num.sc' (RS.p (rs3 s))) ∧ szZ (RS.w (rs2 s)) = szZ (RS.w (rs2 s))) (List.length (RS.w (rs3 s)) ≤ (1000000000000 : Nat) ∧ ∃ (j : Unit), numS s = numS s ∧ RS.w (rs3 s) = RS.w (rs3 s) ∧ RS.f (rs3 s) = RS.f (rs3 s) ∧ RS.pt (rs3 s) = RS.pt (rs3 s) ∧ decide ((↑(cntC (48 : Int) (RS.w (rs3 s))) : Int) > (0 : Int)) = b47 s ∧ EqL zsc zsc ∧ EqL (Num.sc' (RS.p (rs3 s))) (Num.sc' (RS.p (rs3 s))) ∧ szZ (RS.w (rs2 s)) = szZ (RS.w (rs2 s))) ∧ ∀ (j : Unit), br (b47 s) (v0 ∧ (6 : Int) = (numT s).2) ((List.length (RS.w (rs3 s)) ≤ (1000000000000 : Nat) ∧ (v12 ∧ ((0 : Int) ≤ (64 : Int) ∧ (64 : Int) < (256 : Int)) ∧ (0 : Int) ≤ (35 : Int) ∧ (35 : Int) < (256 : Int)) ∧ br (!decide (rowsF (35 : Int) (64 : Int) (35 : Int) (0 : Nat) (RS.w (rs3 s)) = [])) v9 (∃ (j : PLift (N51 s)), numS s = numS s ∧ RS.w (rs3 s) = RS.w (rs3 s) ∧ RS.f (rs3 s) = RS.f (rs3 s) ∧ RS.pt (rs3 s) = RS.pt (rs3 s) ∧ EqL zsc zsc ∧ EqL (Num.sc' (RS.p (rs3 s))) (Num.sc' (RS.p (rs3 s))) ∧ szZ (RS.w (rs2 s)) = szZ (RS.w (rs2 s)))) ∧ ∀ (j : PLift (N51 s)), List.length (RS.w (rs3 s)) ≤ (1000000000000 : Nat) ∧ (∃ (x : J53 s), numS s = numS s ∧ RS.w (rs3 s) = RS.w (rs3 s) ∧ RS.f (rs3 s) = RS.f (rs3 s) ∧ RS.pt (rs3 s) = RS.pt (rs3 s) ∧ EqL zsc zsc ∧ EqL (Num.sc' { mi := Num.mi (RS.p (rs3 s)), xi := Num.xi (RS.p (rs3 s)), mf := Num.mf (RS.p (rs3 s)), xf := Num.xf (RS.p (rs3 s)), ms := v7, xs := v3 - (↑(Subtype.val x) : Int), pr := Num.pr (RS.p (rs3 s)), sc := Num.sc (RS.p (rs3 s)), inc := Num.inc (RS.p (rs3 s)), ps := Num.ps (RS.p (rs3 s)), me := Num.me (RS.p (rs3 s)), px := Num.px (RS.p (rs3 s)) }) [SC.nils, SC.nils, SC.ff, SC.nils, SC.nils, SC.int IntKind.i64 (Num.mi (RS.p (rs3 s))), SC.int IntKind.i64 (Num.xi (RS.p (rs3 s))), SC.int IntKind.i64 (Num.mf (RS.p (rs3 s))), SC.int IntKind.i64 (Num.xf (RS.p (rs3 s))), SC.int IntKind.i64 v7, SC.int IntKind.i64 v3, SC.int IntKind.i64 (Num.pr (RS.p (rs3 s))), SC.int IntKind.i64 (Num.sc (RS.p (rs3 s))), SC.str (Num.inc (RS.p (rs3 s))), SC.bool (Num.ps (RS.p (rs3 s))), SC.int IntKind.i64 (Num.me (RS.p (rs3 s))), SC.bool (Num.px (RS.p (rs3 s))), SC.int IntKind.i64 (0 : Int), SC.int IntKind.i32 (0 : Int), SC.int IntKind.i64 (0 : Int)] ∧ szZ (RS.w (rs2 s)) = szZ (RS.w (rs2 s))) ∧ ∀ (x : J53 s), inR IntKind.i64 (v3 - (v3 - (↑(Subtype.val x) : Int))) ∧ ((0 : Int) ≤ v3 - (v3 - (↑(Subtype.val x) : Int)) ∧ v3 - (v3 - (↑(Subtype.val x) : Int)) < v3) ∧ br (bAt (RS.w (rs3 s)) (v3 - (v3 - (↑(Subtype.val x) : Int))) == (35 : Int)) (inR IntKind.i64 (v3 - (↑(Subtype.val x) : Int) - (1 : Int)) ∧ ∃ (x' : J53 s), (numS s = numS s ∧ RS.w (rs3 s) = RS.w (rs3 s) ∧ RS.f (rs3 s) = RS.f (rs3 s) ∧ RS.pt (rs3 s) = RS.pt (rs3 s) ∧ EqL zsc zsc ∧ EqL (Num.sc' { mi := Num.mi (RS.p (rs3 s)), xi := Num.xi (RS.p (rs3 s)), mf := Num.mf (RS.p (rs3 s)), xf := Num.xf (RS.p (rs3 s)), ms := v7, xs := v3 - (↑(Subtype.val x') : Int), pr := Num.pr (RS.p (rs3 s)), sc := Num.sc (RS.p (rs3 s)), inc := Num.inc (RS.p (rs3 s)), ps := Num.ps (RS.p (rs3 s)), me := Num.me (RS.p (rs3 s)), px := Num.px (RS.p (rs3 s)) }) [SC.nils, SC.nils, SC.ff, SC.nils, SC.nils, SC.int IntKind.i64 (Num.mi (RS.p (rs3 s))), SC.int IntKind.i64 (Num.xi (RS.p (rs3 s))), SC.int IntKind.i64 (Num.mf (RS.p (rs3 s))), SC.int IntKind.i64 (Num.xf (RS.p (rs3 s))), SC.int IntKind.i64 v7, SC.int IntKind.i64 (v3 - (↑(Subtype.val x) : Int) - (1 : Int)), SC.int IntKind.i64 (Num.pr (RS.p (rs3 s))), SC.int IntKind.i64 (Num.sc (RS.p (rs3 s))), SC.str (Num.inc (RS.p (rs3 s))), SC.bool (Num.ps (RS.p (rs3 s))), SC.int IntKind.i64 (Num.me (RS.p (rs3 s))), SC.bool (Num.px (RS.p (rs3 s))), SC.int IntKind.i64 (0 : Int), SC.int IntKind.i32 (0 : Int), SC.int IntKind.i64 (0 : Int)] ∧ szZ (RS.w (rs2 s)) = szZ (RS.w (rs2 s))) ∧ List.length (RS.w (rs3 s)) - Subtype.val x' < List.length (RS.w (rs3 s)) - Subtype.val x) (∃ (j : PLift (N69 s)), numS s = numS s ∧ RS.w (rs3 s) = RS.w (rs3 s) ∧ RS.f (rs3 s) = RS.f (rs3 s) ∧ RS.pt (rs3 s) = RS.pt (rs3 s) ∧ EqL zsc zsc ∧ EqL (Num.sc' (RS.p (rs4 s))) (Num.sc' { mi := Num.mi (RS.p (rs3 s)), xi := Num.xi (RS.p (rs3 s)), mf := Num.mf (RS.p (rs3 s)), xf := Num.xf (RS.p (rs3 s)), ms := v7, xs := v3 - (↑(Subtype.val x) : Int), pr := Num.pr (RS.p (rs3 s)), sc := Num.sc (RS.p (rs3 s)), inc := Num.inc (RS.p (rs3 s)), ps := Num.ps (RS.p (rs3 s)), me := Num.me (RS.p (rs3 s)), px := Num.px (RS.p (rs3 s)) }) ∧ szZ (RS.w (rs2 s)) = szZ (RS.w (rs2 s))))) (((List.length (RS.w (rs3 s)) ≤ (1000000000000 : Nat) ∧ (v12 ∧ ((0 : Int) ≤ (48 : Int) ∧ (48 : Int) < (256 : Int)) ∧ (0 : Int) ≤ (48 : Int) ∧ (48 : Int) < (256 : Int)) ∧ br (!decide (rowsF (35 : Int) (48 : Int) (48 : Int) (0 : Nat) (RS.w (rs3 s)) = [])) (∃ (j : Unit), numS s = numS s ∧ RS.w (rs3 s) = RS.w (rs3 s) ∧ RS.f (rs3 s) = RS.f (rs3 s) ∧ RS.pt (rs3 s) = RS.pt (rs3 s) ∧ RS.w (rs3 s) ++ RS.f (rs3 s) = wf s ∧ true = b55 s ∧ EqL zsc zsc ∧ EqL (Num.sc' (RS.p (rs3 s))) (Num.sc' (RS.p (rs3 s))) ∧ szZ (RS.w (rs2 s)) = szZ (RS.w (rs2 s))) (List.length (RS.f (rs3 s)) ≤ (1000000000000 : Nat) ∧ (((0 : Int) ≤ (48 : Int) ∧ (48 : Int) < (256 : Int)) ∧ v12 ∧ (0 : Int) ≤ (35 : Int) ∧ (35 : Int) < (256 : Int)) ∧ ∃ (j : Unit), numS s = numS s ∧ RS.w (rs3 s) = RS.w (rs3 s) ∧ RS.f (rs3 s) = RS.f (rs3 s) ∧ RS.pt (rs3 s) = RS.pt (rs3 s) ∧ RS.w (rs3 s) ++ RS.f (rs3 s) = wf s ∧ (!decide (rowsF (48 : Int) (35 : Int) (35 : Int) (0 : Nat) (RS.f (rs3 s)) = [])) = b55 s ∧ EqL zsc zsc ∧ EqL (Num.sc' (RS.p (rs3 s))) (Num.sc' (RS.p (rs3 s))) ∧ szZ (RS.w (rs2 s)) = szZ (RS.w (rs2 s)))) ∧ ∀ (j : Unit), br (b55 s) v9 (∃ (j : PLift (N57 s)), numS s = numS s ∧ RS.w (rs3 s) = RS.w (rs3 s) ∧ RS.f (rs3 s) = RS.f (rs3 s) ∧ RS.pt (rs3 s) = RS.pt (rs3 s) ∧ wf s = wf s ∧ EqL zsc zsc ∧ EqL (Num.sc' (RS.p (rs3 s))) (Num.sc' (RS.p (rs3 s))) ∧ szZ (RS.w (rs2 s)) = szZ (RS.w (rs2 s)))) ∧ ∀ (j : PLift (N57 s)), List.length (RS.w (rs3 s)) ≤ (1000000000000 : Nat) ∧ List.length (RS.f (rs3 s)) ≤ (1000000000000 : Nat) ∧ ((∃ (x : Upto (wf s)), numS s = numS s ∧ RS.w (rs3 s) = RS.w (rs3 s) ∧ RS.f (rs3 s) = RS.f (rs3 s) ∧ RS.pt (rs3 s) = RS.pt (rs3 s) ∧ wf s = wf s ∧ Array.toList #[] = flt (List.take (Subtype.val x) (wf s)) ∧ (0 : Int) = (↑(Subtype.val x) : Int) ∧ EqL zsc zsc ∧ EqL (Num.sc' (dg1 s)) [SC.nils, SC.nils, SC.ff, SC.nils, SC.nils, SC.int IntKind.i64 (↑(cntC (48 : Int) (RS.w (rs3 s))) : Int), SC.int IntKind.i64 (Num.xi (RS.p (rs3 s))), SC.int IntKind.i64 (↑(cntC (48 : Int) (RS.f (rs3 s))) : Int), SC.int IntKind.i64 (↑(List.length (RS.f (rs3 s))) : Int), SC.int IntKind.i64 (Num.ms (RS.p (rs3 s))), SC.int IntKind.i64 (Num.xs (RS.p (rs3 s))), SC.int IntKind.i64 (Num.pr (RS.p (rs3 s))), SC.int IntKind.i64 (Num.sc (RS.p (rs3 s))), SC.str (Num.inc (RS.p (rs3 s))), SC.bool (Num.ps (RS.p (rs3 s))), SC.int IntKind.i64 (Num.me (RS.p (rs3 s))), SC.bool (Num.px (RS.p (rs3 s))), SC.int IntKind.i64 (0 : Int), SC.int IntKind.i32 (0 : Int), SC.int IntKind.i64 (0 : Int)] ∧ szZ (RS.w (rs2 s)) = szZ (RS.w (rs2 s))) ∧ ∀ (x : Upto (wf s)), br (decide ((↑(Subtype.val x) : Int) < (↑(List.length (wf s)) : Int))) (((0 : Int) ≤ (↑(Subtype.val x) : Int) ∧ (↑(Subtype.val x) : Int) < (↑(List.length (wf s)) : Int)) ∧ br (bAt (wf s) (↑(Subtype.val x) : Int) != (35 : Int)) (inR IntKind.i64 ((↑(Subtype.val x) : Int) + (1 : Int)) ∧ ((0 : Int) ≤ (↑(Subtype.val x) : Int) ∧ (↑(Subtype.val x) : Int) ≤ (↑(Subtype.val x) : Int) + (1 : Int) ∧ (↑(Subtype.val x) : Int) + (1 : Int) ≤ (↑(List.length (wf s)) : Int)) ∧ List.length (flt (List.take (Subtype.val x) (wf s))) + List.length (List.drop (Int.toNat (↑(Subtype.val x) : Int)) (List.take (Int.toNat ((↑(Subtype.val x) : Int) + (1 : Int))) (wf s))) ≤ (9223372036854775807 : Nat) ∧ inR IntKind.i64 ((↑(Subtype.val x) : Int) + (1 : Int)) ∧ ∃ (x' : Upto (wf s)), (numS s = numS s ∧ RS.w (rs3 s) = RS.w (rs3 s) ∧ RS.f (rs3 s) = RS.f (rs3 s) ∧ RS.pt (rs3 s) = RS.pt (rs3 s) ∧ wf s = wf s ∧ flt (List.take (Subtype.val x) (wf s)) ++ List.drop (Int.toNat (↑(Subtype.val x) : Int)) (List.take (Int.toNat ((↑(Subtype.val x) : Int) + (1 : Int))) (wf s)) = flt (List.take (Subtype.val x') (wf s)) ∧ (↑(Subtype.val x) : Int) + (1 : Int) = (↑(Subtype.val x') : Int) ∧ EqL zsc zsc ∧ EqL (Num.sc' (dg1 s)) (Num.sc' (dg1 s)) ∧ szZ (RS.w (rs2 s)) = szZ (RS.w (rs2 s))) ∧ List.length (wf s) - Subtype.val x' < List.length (wf s) - Subtype.val x) (inR IntKind.i64 ((↑(Subtype.val x) : Int) + (1 : Int)) ∧ ∃ (x' : Upto (wf s)), (numS s = numS s ∧ RS.w (rs3 s) = RS.w (rs3 s) ∧ RS.f (rs3 s) = RS.f (rs3 s) ∧ RS.pt (rs3 s) = RS.pt (rs3 s) ∧ wf s = wf s ∧ flt (List.take (Subtype.val x) (wf s)) = flt (List.take (Subtype.val x') (wf s)) ∧ (↑(Subtype.val x) : Int) + (1 : Int) = (↑(Subtype.val x') : Int) ∧ EqL zsc zsc ∧ EqL (Num.sc' (dg1 s)) (Num.sc' (dg1 s)) ∧ szZ (RS.w (rs2 s)) = szZ (RS.w (rs2 s))) ∧ List.length (wf s) - Subtype.val x' < List.length (wf s) - Subtype.val x)) (∃ (j : PLift (N57 s)), numS s = numS s ∧ RS.w (rs3 s) = RS.w (rs3 s) ∧ RS.f (rs3 s) = RS.f (rs3 s) ∧ RS.pt (rs3 s) = RS.pt (rs3 s) ∧ flt (List.take (Subtype.val x) (wf s)) = flt (wf s) ∧ EqL zsc zsc ∧ EqL (Num.sc' (dg1 s)) (Num.sc' (dg1 s)) ∧ szZ (RS.w (rs2 s)) = szZ (RS.w (rs2 s)))) ∧ ∀ (j : PLift (N57 s)), List.length (flt (wf s)) ≤ (1000000000000 : Nat) ∧ br (!decide (dropP (fun (x : Int) => x == (48 : Int)) (flt (wf s)) = Array.toList #[])) (br (decide (Num.mf (dg1 s) < Num.xf (dg1 s))) (∃ (j : Unit), numS s = numS s ∧ RS.w (rs3 s) = RS.w (rs3 s) ∧ RS.f (rs3 s) = RS.f (rs3 s) ∧ RS.pt (rs3 s) = RS.pt (rs3 s) ∧ true = b65 s ∧ EqL zsc zsc ∧ EqL (Num.sc' (dg2 s)) [SC.nils, SC.nils, SC.ff, SC.nils, SC.nils, SC.int IntKind.i64 (Num.mi (dg1 s)), SC.int IntKind.i64 (Num.xi (dg1 s)), SC.int IntKind.i64 (Num.mf (dg1 s)), SC.int IntKind.i64 (Num.xf (dg1 s)), SC.int IntKind.i64 (Num.ms (dg1 s)), SC.int IntKind.i64 (Num.xs (dg1 s)), SC.int IntKind.i64 (Num.pr (dg1 s)), SC.int IntKind.i64 (Num.sc (dg1 s)), SC.str (dropP (fun (x : Int) => x == (48 : Int)) (flt (wf s))), SC.bool (Num.ps (dg1 s)), SC.int IntKind.i64 (Num.me (dg1 s)), SC.bool (Num.px (dg1 s)), SC.int IntKind.i64 (0 : Int), SC.int IntKind.i32 (0 : Int), SC.int IntKind.i64 (0 : Int)] ∧ szZ (RS.w (rs2 s)) = szZ (RS.w (rs2 s))) (∃ (j : Unit), numS s = numS s ∧ RS.w (rs3 s) = RS.w (rs3 s) ∧ RS.f (rs3 s) = RS.f (rs3 s) ∧ RS.pt (rs3 s) = RS.pt (rs3 s) ∧ numS s = b65 s ∧ EqL zsc zsc ∧ EqL (Num.sc' (dg2 s)) [SC.nils, SC.nils, SC.ff, SC.nils, SC.nils, SC.int IntKind.i64 (Num.mi (dg1 s)), SC.int IntKind.i64 (Num.xi (dg1 s)), SC.int IntKind.i64 (Num.mf (dg1 s)), SC.int IntKind.i64 (Num.xf (dg1 s)), SC.int IntKind.i64 (Num.ms (dg1 s)), SC.int IntKind.i64 (Num.xs (dg1 s)), SC.int IntKind.i64 (Num.pr (dg1 s)), SC.int IntKind.i64 (Num.sc (dg1 s)), SC.str (dropP (fun (x : Int) => x == (48 : Int)) (flt (wf s))), SC.bool (Num.ps (dg1 s)), SC.int IntKind.i64 (Num.me (dg1 s)), SC.bool (Num.px (dg1 s)), SC.int IntKind.i64 (0 : Int), SC.int IntKind.i32 (0 : Int), SC.int IntKind.i64 (0 : Int)] ∧ szZ (RS.w (rs2 s)) = szZ (RS.w (rs2 s)))) (∃ (j : Unit), numS s = numS s ∧ RS.w (rs3 s) = RS.w (rs3 s) ∧ RS.f (rs3 s) = RS.f (rs3 s) ∧ RS.pt (rs3 s) = RS.pt (rs3 s) ∧ false = b65 s ∧ EqL zsc zsc ∧ EqL (Num.sc' (dg2 s)) [SC.nils, SC.nils, SC.ff, SC.nils, SC.nils, SC.int IntKind.i64 (Num.mi (dg1 s)), SC.int IntKind.i64 (Num.xi (dg1 s)), SC.int IntKind.i64 (Num.mf (dg1 s)), SC.int IntKind.i64 (Num.xf (dg1 s)), SC.int IntKind.i64 (Num.ms (dg1 s)), SC.int IntKind.i64 (Num.xs (dg1 s)), SC.int IntKind.i64 (Num.pr (dg1 s)), SC.int IntKind.i64 (Num.sc (dg1 s)), SC.str (dropP (fun (x : Int) => x == (48 : Int)) (flt (wf s))), SC.bool (Num.ps (dg1 s)), SC.int IntKind.i64 (Num.me (dg1 s)), SC.bool (Num.px (dg1 s)), SC.int IntKind.i64 (0 : Int), SC.int IntKind.i32 (0 : Int), SC.int IntKind.i64 (0 : Int)] ∧ szZ (RS.w (rs2 s)) = szZ (RS.w (rs2 s))) ∧ ∀ (j : Unit), br (b65 s) (v0 ∧ (6 : Int) = (numT s).2) (br (numS s) (∃ (j : PLift (N69 s)), numS s = numS s ∧ RS.w (rs3 s) = RS.w (rs3 s) ∧ RS.f (rs3 s) = RS.f (rs3 s) ∧ RS.pt (rs3 s) = RS.pt (rs3 s) ∧ EqL zsc zsc ∧ EqL (Num.sc' (RS.p (rs4 s))) [SC.nils, SC.nils, SC.ff, SC.nils, SC.nils, SC.int IntKind.i64 (Num.mi (dg2 s)), SC.int IntKind.i64 v3, SC.int IntKind.i64 (Num.mf (dg2 s)), SC.int IntKind.i64 (Num.xf (dg2 s)), SC.int IntKind.i64 (Num.ms (dg2 s)), SC.int IntKind.i64 (Num.xs (dg2 s)), SC.int IntKind.i64 (Num.pr (dg2 s)), SC.int IntKind.i64 (Num.sc (dg2 s)), SC.str (Num.inc (dg2 s)), SC.bool (Num.ps (dg2 s)), SC.int IntKind.i64 (Num.me (dg2 s)), SC.bool (Num.px (dg2 s)), SC.int IntKind.i64 (0 : Int), SC.int IntKind.i32 (0 : Int), SC.int IntKind.i64 (0 : Int)] ∧ szZ (RS.w (rs2 s)) = szZ (RS.w (rs2 s))) (∃ (j : PLift (N69 s)), numS s = numS s ∧ RS.w (rs3 s) = RS.w (rs3 s) ∧ RS.f (rs3 s) = RS.f (rs3 s) ∧ RS.pt (rs3 s) = RS.pt (rs3 s) ∧ EqL zsc zsc ∧ EqL (Num.sc' (RS.p (rs4 s))) (Num.sc' (dg2 s)) ∧ szZ (RS.w (rs2 s)) = szZ (RS.w (rs2 s)))))) ∧ ∀ (j : PLift (N69 s)), (br (numS s) (br (decide (v1 > (1 : Int))) (∃ (j : Unit), numS s = numS s ∧ RS.w (rs3 s) = RS.w (rs3 s) ∧ RS.f (rs3 s) = RS.f (rs3 s) ∧ RS.pt (rs3 s) = RS.pt (rs3 s) ∧ true = b69 s ∧ EqL zsc zsc ∧ EqL (Num.sc' (RS.p (rs4 s))) (Num.sc' (RS.p (rs4 s))) ∧ szZ (RS.w (rs2 s)) = szZ (RS.w (rs2 s))) (br (decide (Num.ms (RS.p (rs4 s)) > (0 : Int))) (((0 : Int) ≤ (0 : Int) ∧ (0 : Int) < v3) ∧ ∃ (j : Unit), numS s = numS s ∧ RS.w (rs3 s) = RS.w (rs3 s) ∧ RS.f (rs3 s) = RS.f (rs3 s) ∧ RS.pt (rs3 s) = RS.pt (rs3 s) ∧ (bAt (RS.w (rs3 s)) (0 : Int) == (35 : Int)) = b69 s ∧ EqL zsc zsc ∧ EqL (Num.sc' (RS.p (rs4 s))) (Num.sc' (RS.p (rs4 s))) ∧ szZ (RS.w (rs2 s)) = szZ (RS.w (rs2 s))) (∃ (j : Unit), numS s = numS s ∧ RS.w (rs3 s) = RS.w (rs3 s) ∧ RS.f (rs3 s) = RS.f (rs3 s) ∧ RS.pt (rs3 s) = RS.pt (rs3 s) ∧ false = b69 s ∧ EqL zsc zsc ∧ EqL (Num.sc' (RS.p (rs4 s))) (Num.sc' (RS.p (rs4 s))) ∧ szZ (RS.w (rs2 s)) = szZ (RS.w (rs2 s))))) (∃ (j : Unit), numS s = numS s ∧ RS.w (rs3 s) = RS.w (rs3 s) ∧ RS.f (rs3 s) = RS.f (rs3 s) ∧ RS.pt (rs3 s) = RS.pt (rs3 s) ∧ false = b69 s ∧ EqL zsc zsc ∧ EqL (Num.sc' (RS.p (rs4 s))) (Num.sc' (RS.p (rs4 s))) ∧ szZ (RS.w (rs2 s)) = szZ (RS.w (rs2 s))) ∧ ∀ (j : Unit), br (b69 s) (v0 ∧ (6 : Int) = (numT s).2) (∃ (j : PLift (N69 s ∧ b69 s = false)), numS s = numS s ∧ RS.w (rs3 s) = RS.w (rs3 s) ∧ RS.f (rs3 s) = RS.f (rs3 s) ∧ RS.pt (rs3 s) = RS.pt (rs3 s) ∧ EqL zsc zsc ∧ EqL (Num.sc' (RS.p (rs4 s))) (Num.sc' (RS.p (rs4 s))) ∧ szZ (RS.w (rs2 s)) = szZ (RS.w (rs2 s)))) ∧ ∀ (j : PLift (N69 s ∧ b69 s = false)), ((0 : Int) ≤ (0 : Int) ∧ (0 : Int) < (↑(7 : Nat) : Int)) ∧ Int.toNat (0 : Int) < (7 : Nat) ∧ br (decide ((Num.mi (RS.p (rs4 s))) > (40 : Int))) v5 (inR IntKind.i64 ((0 : Int) + (1 : Int)) ∧ ((0 : Int) ≤ (0 : Int) + (1 : Int) ∧ (0 : Int) + (1 : Int) < (↑(7 : Nat) : Int)) ∧ Int.toNat ((0 : Int) + (1 : Int)) < (7 : Nat) ∧ br (decide (List.getD [Num.mi (RS.p (rs4 s)), Num.xi (RS.p (rs4 s)), Num.xf (RS.p (rs4 s)), Num.xs (RS.p (rs4 s)), Num.pr (RS.p (rs4 s)), Num.sc (RS.p (rs4 s)), v4] (Int.toNat ((0 : Int) + (1 : Int))) (0 : Int) > (40 : Int))) v5 (inR IntKind.i64 ((0 : Int) + (1 : Int) + (1 : Int)) ∧ ((0 : Int) ≤ (0 : Int) + (1 : Int) + (1 : Int) ∧ (0 : Int) + (1 : Int) + (1 : Int) < (↑(7 : Nat) : Int)) ∧ Int.toNat ((0 : Int) + (1 : Int) + (1 : Int)) < (7 : Nat) ∧ br (decide (List.getD [Num.mi (RS.p (rs4 s)), Num.xi (RS.p (rs4 s)), Num.xf (RS.p (rs4 s)), Num.xs (RS.p (rs4 s)), Num.pr (RS.p (rs4 s)), Num.sc (RS.p (rs4 s)), v4] (Int.toNat ((0 : Int) + (1 : Int) + (1 : Int))) (0 : Int) > (40 : Int))) v5 (inR IntKind.i64 v13 ∧ ((0 : Int) ≤ (0 : Int) + (1 : Int) + (1 : Int) + (1 : Int) ∧ (0 : Int) + (1 : Int) + (1 : Int) + (1 : Int) < (↑(7 : Nat) : Int)) ∧ Int.toNat v13 < (7 : Nat) ∧ br (decide (List.getD [Num.mi (RS.p (rs4 s)), Num.xi (RS.p (rs4 s)), Num.xf (RS.p (rs4 s)), Num.xs (RS.p (rs4 s)), Num.pr (RS.p (rs4 s)), Num.sc (RS.p (rs4 s)), v4] (Int.toNat v13) (0 : Int) > (40 : Int))) v5 (inR IntKind.i64 v10 ∧ ((0 : Int) ≤ (0 : Int) + (1 : Int) + (1 : Int) + (1 : Int) + (1 : Int) ∧ (0 : Int) + (1 : Int) + (1 : Int) + (1 : Int) + (1 : Int) < (↑(7 : Nat) : Int)) ∧ Int.toNat v10 < (7 : Nat) ∧ br (decide (List.getD [Num.mi (RS.p (rs4 s)), Num.xi (RS.p (rs4 s)), Num.xf (RS.p (rs4 s)), Num.xs (RS.p (rs4 s)), Num.pr (RS.p (rs4 s)), Num.sc (RS.p (rs4 s)), v4] (Int.toNat v10) (0 : Int) > (40 : Int))) v5 (inR IntKind.i64 v8 ∧ ((0 : Int) ≤ (0 : Int) + (1 : Int) + (1 : Int) + (1 : Int) + (1 : Int) + (1 : Int) ∧ (0 : Int) + (1 : Int) + (1 : Int) + (1 : Int) + (1 : Int) + (1 : Int) < (↑(7 : Nat) : Int)) ∧ Int.toNat v8 < (7 : Nat) ∧ br (decide (List.getD [Num.mi (RS.p (rs4 s)), Num.xi (RS.p (rs4 s)), Num.xf (RS.p (rs4 s)), Num.xs (RS.p (rs4 s)), Num.pr (RS.p (rs4 s)), Num.sc (RS.p (rs4 s)), v4] (Int.toNat v8) (0 : Int) > (40 : Int))) v5 (inR IntKind.i64 v6 ∧ ((0 : Int) ≤ (0 : Int) + (1 : Int) + (1 : Int) + (1 : Int) + (1 : Int) + (1 : Int) + (1 : Int) ∧ (0 : Int) + (1 : Int) + (1 : Int) + (1 : Int) + (1 : Int) + (1 : Int) + (1 : Int) < (↑(7 : Nat) : Int)) ∧ Int.toNat v6 < (7 : Nat) ∧ br (decide (List.getD [Num.mi (RS.p (rs4 s)), Num.xi (RS.p (rs4 s)), Num.xf (RS.p (rs4 s)), Num.xs (RS.p (rs4 s)), Num.pr (RS.p (rs4 s)), Num.sc (RS.p (rs4 s)), v4] (Int.toNat v6) (0 : Int) > (40 : Int))) v5 (inR IntKind.i64 ((0 : Int) + (1 : Int) + (1 : Int) + (1 : Int) + (1 : Int) + (1 : Int) + (1 : Int) + (1 : Int)) ∧ (([] : List Itm) = [] ∧ ([] : List Itm) = [] ∧ false = false ∧ ([] : List Itm) = [] ∧ ([] : List Itm) = [] ∧ Num.mi (RS.p (rs4 s)) = Num.mi (numT s).1 ∧ Num.xi (RS.p (rs4 s)) = Num.xi (numT s).1 ∧ Num.mf (RS.p (rs4 s)) = Num.mf (numT s).1 ∧ Num.xf (RS.p (rs4 s)) = Num.xf (numT s).1 ∧ Num.ms (RS.p (rs4 s)) = Num.ms (numT s).1 ∧ Num.xs (RS.p (rs4 s)) = Num.xs (numT s).1 ∧ Num.pr (RS.p (rs4 s)) = Num.pr (numT s).1 ∧ Num.sc (RS.p (rs4 s)) = Num.sc (numT s).1 ∧ Num.inc (RS.p (rs4 s)) = Num.inc (numT s).1 ∧ Num.ps (RS.p (rs4 s)) = Num.ps (numT s).1 ∧ Num.me (RS.p (rs4 s)) = Num.me (numT s).1 ∧ Num.px (RS.p (rs4 s)) = Num.px (numT s).1 ∧ (0 : Int) = (0 : Int) ∧ (0 : Int) = (0 : Int) ∧ (0 : Int) = (0 : Int)) ∧ (0 : Int) = (numT s).2))))))))))) := by kernel_rfl
set_option maxHeartbeats 4000000 in
theorem of_r3num (h : ∀ (s : List UInt8), (s.length ≤ 1000000000) → vcP [(40, sp_r3cut), (42, sp_r3count), (41, sp_r3strip), (43, sp_r3rows)] [] misc Tryz.f18 (annN s) [.one (.str s)] (.tup [(true, (numT s).1.pcs), (false, [.int .i64 (numT s).2])])) : FnP 18 sp_r3num := by
  refine fnP_ok (cs := [(40, sp_r3cut), (42, sp_r3count), (41, sp_r3strip), (43, sp_r3rows)]) (cas := []) (ms := misc) (.cons ok_r3cut (.cons ok_r3count (.cons ok_r3strip (.cons ok_r3rows .nil)))) .nil misc_ok 18 Tryz.f18 (by kernel_rfl) (by kernel_rfl) (by kernel_rfl) (fun | [.one (.str s)] => annN s | _ => .nil) ?_
  intro pvs p r hs hp
  unfold sp_r3num at hs
  simp only at hs
  split at hs
  · rename_i s
    cases hs
    refine h s ?_
    · exact hp
  · cases hs
theorem anyP_next (P : Int → Bool) (s : List UInt8) {i : Nat} (h : i < s.length) : anyP P (s.take (i + 1)) = (anyP P (s.take i) || P ((s.getD i 0).toNat : Int)) := by
  unfold anyP
  rw [take_next s 0 h, List.any_append]
  simp
theorem isOdd_eq (r : Int) : isOdd r = if (r != 35) = true then (if (r != 64) = true then (if (r != 44) = true then (if (r != 46) = true then (if r < 48 then true else decide (r > 57)) else false) else false) else false) else false := by
  unfold isOdd isDig hasR
  rw [Bool.eq_iff_iff]
  by_cases h1 : r = 35 <;> by_cases h2 : r = 64 <;> by_cases h3 : r = 44 <;> by_cases h4 : r = 46 <;> by_cases h5 : r < 48 <;> simp [h1, h2, h3, h4, h5] <;> omega
theorem rs1_eq (s : List UInt8) : (rs1 s).c = (expT (numX s) (numS s) z0).1 ∧ (rs1 s).p = (expT (numX s) (numS s) z0).2 := ⟨rfl, rfl⟩
theorem flt_next (l : List UInt8) {i : Nat} (h : i < l.length) : flt (l.take (i + 1)) = flt (l.take i) ++ if ((l.getD i 0).toNat : Int) = 35 then [] else [l.getD i 0] := by
  unfold flt
  rw [take_next l 0 h, List.filter_append]
  congr 1
  by_cases hx : ((l.getD i 0).toNat : Int) = 35
  · rw [if_pos hx, List.filter_cons_of_neg (by simpa using hx)]; rfl
  · rw [if_neg hx, List.filter_cons_of_pos (by simpa using hx)]; rfl
theorem take_drop1 (l : List UInt8) {i : Nat} (h : i < l.length) : List.drop i (List.take (i + 1) l) = [l.getD i 0] := by
  rw [List.drop_take, drop_next l 0 h, show i + 1 - i = 1 by omega]; rfl
def E27.zero (s : List UInt8) : E27 s where
  i := 0
  ps := []
  pl := []
  n := 0
  le := Nat.zero_le _
  few := Nat.le_refl _
  n0 := ⟨Int.le_refl _, by omega⟩
  nn := Int.le_refl _
  sz := fun _ => by rw [List.drop_zero, List.nil_append]; exact szZ_eq _
  sz1 := fun h => absurd (Nat.zero_le _) h
  fl := by rw [List.drop_zero, List.nil_append]; exact (flat_filter _).symm
  pn := Nat.le_refl _
def E27.on {s : List UInt8} (x : E27 s) (h : x.i < (rs2 s).w.length) (hx : (rs2 s).w.getD x.i 0 ≠ 44) : E27 s where
  i := x.i + 1
  ps := x.ps
  pl := x.pl ++ [(rs2 s).w.getD x.i 0]
  n := x.n + 1
  le := by omega
  few := by have := x.few; omega
  n0 := by have := x.n0; have := x.nn; omega
  nn := by have := x.nn; omega
  sz := fun _ => by
    have e := x.sz (by omega)
    rw [drop_next (rs2 s).w 0 h] at e
    rw [← e]
    show _ = x.ps ++ (if (rs2 s).w.getD x.i 0 = 44 then _ else _)
    rw [if_neg hx]
  sz1 := fun h' => absurd (by omega : x.i + 1 ≤ (rs2 s).w.length) h'
  fl := by
    have e := x.fl
    rw [drop_next (rs2 s).w 0 h, List.filter_cons_of_pos (by simpa using hx)] at e
    rw [← e]; simp
  pn := by have := x.pn; simp; omega
def E27.off {s : List UInt8} (x : E27 s) (hi : x.i ≤ (rs2 s).w.length) (hx : x.i < (rs2 s).w.length → (rs2 s).w.getD x.i 0 = 44) : E27 s where
  i := x.i + 1
  ps := x.ps ++ [x.n]
  pl := x.pl
  n := 0
  le := by omega
  few := by have := x.few; simp; omega
  n0 := ⟨Int.le_refl _, by omega⟩
  nn := by omega
  sz := fun h' => by
    have e := x.sz hi
    have h : x.i < (rs2 s).w.length := by omega
    rw [drop_next (rs2 s).w 0 h] at e
    rw [← e, List.append_assoc]
    show _ = x.ps ++ (if (rs2 s).w.getD x.i 0 = 44 then _ else _)
    rw [if_pos (hx h)]; rfl
  sz1 := fun h' => by
    have e := x.sz hi
    rw [List.drop_of_length_le (by omega)] at e
    exact e
  fl := by
    have e := x.fl
    by_cases h : x.i < (rs2 s).w.length
    · rw [drop_next (rs2 s).w 0 h, List.filter_cons_of_neg (by rw [hx h]; decide)] at e
      exact e
    · rw [List.drop_of_length_le (by omega)] at e
      rw [List.drop_of_length_le (by omega)]
      exact e
  pn := by have := x.pn; omega
theorem rs1_pr (s : List UInt8) : (rs1 s).p.pr = 0 := by
  show (expT _ _ _).2.pr = 0
  unfold expT
  repeat' split
  all_goals rfl
theorem grp_pr {w : List UInt8} {p : Num} (hp : p.pr = 0) (hne : emptyIn (splitC 44 w) = false) : 0 < (grpP w p).pr ↔ 1 < (szZ w).length := by
  unfold grpP
  split
  · rename_i h
    refine ⟨fun _ => h, fun _ => ?_⟩
    show 0 < (szZ w).getD ((szZ w).length - 1) 0
    have hl : (szZ w).length - 1 < (splitC 44 w).length := by rw [szZ_len] at h ⊢; omega
    rw [szZ_get w hl]
    have h0 : ¬ (szZ w).getD ((szZ w).length - 1) 0 = 0 := fun h0 => by
      have := empty_of h (by omega) h0
      rw [hne] at this; cases this
    rw [szZ_get w hl] at h0
    omega
  · rename_i h
    rw [hp]
    exact ⟨fun h' => absurd h' (by decide), fun h' => absurd h' h⟩
theorem b69_iff {s : List UInt8} (h : 0 < (rs4 s).p.pr ↔ 1 < (szZ (rs2 s).w).length) : b69 s = true ↔ (numS s = true ∧ (0 < (rs4 s).p.pr ∨ 0 < (rs4 s).p.ms ∧ bAt (rs3 s).w 0 = 35)) := by
  unfold b69
  rw [h]
  simp
set_option maxHeartbeats 8000000 in
theorem ok_r3num : FnP 18 sp_r3num := of_r3num (by
  intro s hs
  rw [vc_r3num]
  have cB : (cutI 69 s).1 = numB s ∧ (cutI 69 s).2.1 = numX s ∧ (cutI 69 s).2.2 = numS s := by
    have := cutI_cut 69 s
    rw [show ((69 : UInt8).toNat : Int) = 69 from rfl] at this
    rw [this]; exact ⟨rfl, rfl, rfl⟩
  obtain ⟨cB1, cB2, cB3⟩ := cB
  have lB := (cut_sub 69 s).1.2
  have lX := (cut_sub 69 s).2.2
  have lB : (numB s).length ≤ s.length := lB
  have lX : (numX s).length ≤ s.length := lX
  rw [cB1, cB2, cB3]
  have cF : cutI 46 (numB s) = Lib.cut (numB s) [46] := cutI_cut 46 (numB s)
  rw [cF]
  have lF : (bf s).length ≤ (numB s).length := (cut_sub 46 (numB s)).2.2
  have hxt : (xt s).length ≤ (numX s).length := by
    unfold xt; rw [trim_plus]; split
    · rw [List.length_drop]; omega
    · omega
  have r12 := fun {e : Int} (h : numT s = (z0, e)) => h
  refine ⟨by omega, br_of (fun hS => ⟨?_, fun jS => ⟨?_, fun _ => ?_⟩⟩) fun hS => ?_, fun j12 => ⟨⟨?_, fun x => ?_⟩, fun j18 => ⟨by omega, ?_, fun _ => br_of (fun h => ?_) fun h => ?_⟩⟩⟩
  · 
    have hp := has_plus (numX s)
    refine br_of (fun h => ⟨⟨by omega, by have : (numX s).length > 0 := by (have := of_decide_eq_true h); omega
                                          omega⟩, br_of (fun h1 => ⟨⟨by omega, by have := of_decide_eq_true h; omega⟩, ⟨⟨hS⟩, ?_⟩⟩) fun h1 => ⟨⟨hS⟩, ?_⟩⟩) fun h => ⟨⟨hS⟩, ?_⟩
    · have hl := of_decide_eq_true h
      have hb : ((numX s).getD 0 0).toNat = 43 := by have : bAt (numX s) 0 = 43 := by simpa using h1
                                                     have e := bAt_nat (numX s) 0
                                                     rw [show ((0 : Nat) : Int) = 0 from rfl, this] at e; omega
      have hh : Lib.hasPrefix (numX s) [43] = true := by rw [hp]; exact decide_eq_true ⟨by omega, by omega⟩
      have e1 : List.drop (Int.toNat 1) (numX s) = xt s := by unfold xt; rw [trim_plus, if_pos hh]; rfl
      and_intros
      all_goals first | rfl | exact e1 | skip
      exact hh.symm
    · have hb : ((numX s).getD 0 0).toNat ≠ 43 := by intro he
                                                     have : bAt (numX s) 0 ≠ 43 := by simpa using h1
                                                     have e := bAt_nat (numX s) 0
                                                     rw [show ((0 : Nat) : Int) = 0 from rfl] at e; omega
      have hh : Lib.hasPrefix (numX s) [43] = false := by rw [hp]; exact decide_eq_false (by omega)
      have e1 : numX s = xt s := by unfold xt; rw [trim_plus, if_neg (by rw [hh]; decide)]
      and_intros
      all_goals first | rfl | exact e1 | skip
      exact hh.symm
    · have hl : ¬ ((numX s).length : Int) > 0 := of_decide_eq_false h
      have hh : Lib.hasPrefix (numX s) [43] = false := by rw [hp]; exact decide_eq_false (by omega)
      have e1 : numX s = xt s := by unfold xt; rw [trim_plus, if_neg (by rw [hh]; decide)]
      and_intros
      all_goals first | rfl | exact e1 | skip
      exact hh.symm
  · refine br_of (fun h => ⟨(), ?_⟩) fun h => ⟨by omega, (), ?_⟩
    · have h : xt s = [] := of_decide_eq_true h
      have e : true = b7 s := by unfold b7; rw [decide_eq_true h]; rfl
      and_intros
      all_goals first | rfl | exact e
    · have h : ¬ xt s = [] := of_decide_eq_false h
      have e : (!decide (dropP (fun x => x == 48) (xt s) = Array.toList #[])) = b7 s := by
        unfold b7; rw [decide_eq_false h]; show (!decide (dropP (fun x => x == 48) (xt s) = [])) = _; simp
      and_intros
      all_goals first | rfl | exact e
  · have e1 := rs1_eq s
    rw [hS] at e1
    refine br_of (fun h => ?_) fun h => br_of (fun h1 => ?_) fun h1 => ⟨⟨?_⟩, ?_⟩
    · have h : xt s = [] ∨ dropP (· == 48) (xt s) ≠ [] := by unfold b7 at h; simpa using h
      have hE : numT s = (z0, 4) := num_fail1 (by rw [e1.1, exp_bad h]) (by decide)
      rw [hE]; and_intros <;> rfl
    all_goals have h : xt s ≠ [] ∧ dropP (· == 48) (xt s) = [] := by unfold b7 at h; simpa using h
    · have h1 := of_decide_eq_true h1
      have hE : numT s = (z0, 8) := num_fail1 (by rw [e1.1, exp_long h.1 h.2 (by unfold xt at h1; omega)]) (by decide)
      rw [hE]; and_intros <;> rfl
    all_goals have h1 : ¬ ((xt s).length : Int) > 9 := of_decide_eq_false h1
    all_goals have e2 := exp_ok (p := z0) h.1 h.2 (by unfold xt at h1; omega)
    · rw [e1.1, e2]
    · and_intros
      all_goals first | rfl | skip
      all_goals first | (rw [e1.2, e2]; rfl) | rw [e1.2, e2]
  · have e1 := rs1_eq s
    rw [hS] at e1
    refine ⟨⟨e1.1⟩, ?_⟩
    and_intros
    all_goals first | rfl | (rw [e1.2]; rfl) | rw [e1.2]
  · refine ⟨⟨0, j12.down, Nat.zero_le _, rfl⟩, ?_⟩
    and_intros
    all_goals first | rfl
  · obtain ⟨i, hc, hi, hq⟩ := x
    dsimp only
    refine br_of (fun h => ⟨⟨by omega, by have : i < (numB s).length := by simpa using h
                                          omega⟩, ?_, fun _ => br_of (fun h1 => ?_) fun h1 => ?_⟩) fun h => ⟨⟨⟨hc, ?_⟩⟩, ?_⟩
    · have h : i < (numB s).length := by simpa using h
      have ho := isOdd_eq (bAt (numB s) i)
      refine br_of (fun h1 => br_of (fun h2 => br_of (fun h3 => br_of (fun h4 => br_of (fun h5 => ⟨(), ?_⟩) fun h5 => ⟨(), ?_⟩) fun h4 => ⟨(), ?_⟩) fun h3 => ⟨(), ?_⟩) fun h2 => ⟨(), ?_⟩) fun h1 => ⟨(), ?_⟩
      all_goals simp only [h1, if_true] at ho
      all_goals try simp only [h2, if_true] at ho
      all_goals try simp only [h3, if_true] at ho
      all_goals try simp only [h4, if_true] at ho
      all_goals try simp only [of_decide_eq_true h5, if_true] at ho
      all_goals try simp only [of_decide_eq_false h5, if_false] at ho
      all_goals and_intros
      all_goals first | rfl | exact ho.symm | (rw [ho]; rfl) | (rw [ho]; simp)
    all_goals first | have h : i < (numB s).length := by simpa using h
                    | have h : i = (numB s).length := by (have : ¬ i < (numB s).length := by simpa using h); omega
    all_goals try have hn := anyP_next isOdd (numB s) h
    all_goals try rw [bAt_nat] at h1
    · have : anyP isOdd (numB s) = true := by
        unfold anyP
        rw [List.any_eq_true]
        exact ⟨_, getD_mem' h, h1⟩
      rw [parts_odd hc this]; and_intros <;> rfl
    · refine ⟨by simp only [inR]; omega, ⟨i + 1, hc, h, by rw [hn, hq, h1]; rfl⟩, ?_, by show (numB s).length - (i + 1) < _; omega⟩
      and_intros
      all_goals first | rfl
    · rw [h, List.take_length] at hq; exact hq
    · and_intros
      all_goals first | rfl
  · refine ⟨by show (bf s).length ≤ _; omega, br_of (fun h => ⟨(), ?_⟩) fun h => br_of (fun h1 => ⟨(), ?_⟩) fun h1 => ⟨(), ?_⟩⟩
    · have h0 : 0 < cntC 46 (bf s) := by
        have := of_decide_eq_true h
        exact Int.ofNat_lt.1 this
      have e : true = b19 s := by unfold b19; rw [decide_eq_true h0]; rfl
      and_intros
      all_goals first | rfl | exact e
    all_goals have h0 : ¬ 0 < cntC 46 (bf s) := fun h' => of_decide_eq_false h (Int.ofNat_lt.2 h')
    · have e : decide ((Lib.cut (numB s) [46]).2.1 = Array.toList #[]) = b19 s := by
        unfold b19; rw [decide_eq_false h0, show bp s = true from h1]; rfl
      and_intros
      all_goals first | rfl | exact e
    · have e : false = b19 s := by unfold b19; rw [decide_eq_false h0, show bp s = false from h1]; rfl
      and_intros
      all_goals first | rfl | exact e
  · have h : 0 < cntC 46 (bf s) ∨ (bp s = true ∧ bf s = []) := by unfold b19 at h; simpa using h
    rw [parts_bad j18.down.1 h]; and_intros <;> rfl
  · have h : ¬ 0 < cntC 46 (bf s) ∧ ¬ (bp s = true ∧ bf s = []) := by
      unfold b19 at h
      rw [Bool.or_eq_false_iff] at h
      refine ⟨of_decide_eq_false h.1, fun h' => ?_⟩
      rw [h'.1, decide_eq_true h'.2] at h
      cases h.2
    have e2 := parts_ok j18.down.1 j18.down.2 h.1 h.2
    have c2 : (rs2 s).c = 0 := by rw [e2]
    have lw2 : (rs2 s).w.length ≤ s.length := (rs2_sub s).1.2
    have lf2 : (rs2 s).f.length ≤ s.length := (rs2_sub s).2.2
    have hszn : (szZ (rs2 s).w).length ≤ (rs2 s).w.length + 1 := by
      rw [szZ_len, splitC_len]; have := List.count_le_length (a := (44 : UInt8)) (l := (rs2 s).w); omega
    refine ⟨⟨by omega, br_of (fun h => ?_) fun h => ⟨⟨⟨c2, ?_⟩⟩, ?_⟩⟩, fun j23 => ⟨⟨?_, fun x => br_of (fun h => ⟨?_, fun _ => br_of (fun h1 => ?_) fun h1 => ?_⟩) fun h => ?_⟩, fun _ => ⟨⟨?_, fun x => ?_⟩, fun jE => ⟨?_, fun _ => ⟨?_, fun j43 => ?_⟩⟩⟩⟩⟩
    · have h0 : 0 < cntC 44 (rs2 s).f := by
        have := of_decide_eq_true h
        rw [e2]; exact Int.ofNat_lt.1 this
      rw [groups_bad c2 (.inr h0)]; and_intros <;> rfl
    · have := of_decide_eq_false h
      intro h'
      rw [e2] at h'
      exact this (Int.ofNat_lt.2 h')
    · and_intros
      all_goals first | rfl | (rw [e2]; rfl) | rw [e2]
    · refine ⟨E27.zero s, ?_⟩
      and_intros <;> rfl
    · have h : x.i ≤ (rs2 s).w.length := by have := of_decide_eq_true h; omega
      refine br_of (fun h1 => ⟨⟨by omega, by have := of_decide_eq_true h1; omega⟩, (), ?_⟩) fun h1 => ⟨(), ?_⟩
      · have h1 : x.i < (rs2 s).w.length := by have := of_decide_eq_true h1; omega
        have e : (bAt (rs2 s).w x.i != 44) = b29 s x.i := by
          unfold b29
          rw [decide_eq_true h1, bAt_nat]
          have := u8_toNat (x := (rs2 s).w.getD x.i 0) (k := 44)
          rw [Bool.eq_iff_iff]
          simp only [Bool.true_and, bne_iff_ne, ne_eq, decide_eq_true_eq]
          rw [show ((44 : UInt8).toNat : Int) = 44 from rfl] at this
          rw [this]
        and_intros
        all_goals first | rfl | exact e
      · have h1 : ¬ x.i < (rs2 s).w.length := by have := of_decide_eq_false h1; omega
        have e : false = b29 s x.i := by unfold b29; rw [decide_eq_false h1]; rfl
        and_intros
        all_goals first | rfl | exact e
    · unfold b29 at h1
      rw [Bool.and_eq_true, decide_eq_true_iff, decide_eq_true_iff] at h1
      have hp := x.pn
      have hn := x.n0
      have hi := h1.1
      have et := take_drop1 (rs2 s).w h1.1
      rw [Int.toNat_natCast, show ((x.i : Int) + 1).toNat = x.i + 1 by omega, et]
      refine ⟨by simp only [inR]; omega, ⟨by omega, by omega, by omega⟩, by simp; omega, by simp only [inR]; omega, by simp only [inR]; omega, x.on h1.1 h1.2, ?_, by show (rs2 s).w.length + 1 - (x.i + 1) < _; omega⟩
      and_intros <;> rfl
    · have h : x.i ≤ (rs2 s).w.length := by have := of_decide_eq_true h; omega
      have hf := x.few
      refine ⟨by omega, by simp only [inR]; omega, x.off h (fun hl => ?_), ?_, by show (rs2 s).w.length + 1 - (x.i + 1) < _; omega⟩
      · unfold b29 at h1
        rw [decide_eq_true hl, Bool.true_and] at h1
        exact Decidable.not_not.1 (of_decide_eq_false h1)
      · and_intros <;> rfl
    · have h : ¬ x.i ≤ (rs2 s).w.length := by have := of_decide_eq_false h; omega
      have e1 := x.sz1 h
      have e3 := x.fl
      rw [List.drop_of_length_le (by omega)] at e3
      have e3 : x.pl = (splitC 44 (rs2 s).w).flatten := by rw [← e3]; exact (List.append_nil _).symm
      refine ⟨j23, ?_⟩
      and_intros
      all_goals first | rfl | exact e1 | exact e3
    · refine ⟨⟨0, Nat.zero_le _, fun _ j hj => absurd hj (Nat.not_lt_zero _)⟩, ?_⟩
      and_intros <;> rfl
    · obtain ⟨i, hi, hq⟩ := x
      dsimp only
      rw [Int.toNat_natCast]
      refine br_of (fun h => ⟨br_of (fun h1 => ⟨⟨by omega, by have := of_decide_eq_true h; omega⟩, by have := of_decide_eq_true h; omega, (), ?_⟩) fun h1 => ⟨(), ?_⟩, fun _ => br_of (fun h1 => ?_) fun h1 => ?_⟩) fun h => ⟨⟨?_⟩, ?_⟩
      · have h1 : 1 < (szZ (rs2 s).w).length := by have := of_decide_eq_true h1; omega
        have e : ((szZ (rs2 s).w).getD i 0 == 0) = b37 s i := by unfold b37; rw [decide_eq_true h1, Bool.true_and]; exact Bool.beq_eq_decide_eq _ _
        and_intros
        all_goals first | rfl | exact e
      · have h1 : ¬ 1 < (szZ (rs2 s).w).length := by have := of_decide_eq_false h1; omega
        have e : false = b37 s i := by unfold b37; rw [decide_eq_false h1]; rfl
        and_intros
        all_goals first | rfl | exact e
      · unfold b37 at h1
        rw [Bool.and_eq_true, decide_eq_true_iff, decide_eq_true_iff] at h1
        have h : i < (szZ (rs2 s).w).length := by have := of_decide_eq_true h; omega
        rw [groups_bad c2 (.inl (empty_of h1.1 h h1.2))]; and_intros <;> rfl
      · have h : i < (szZ (rs2 s).w).length := by have := of_decide_eq_true h; omega
        refine ⟨by simp only [inR]; omega, ⟨i + 1, h, fun h2 j hj => ?_⟩, ?_, by show (szZ (rs2 s).w).length - (i + 1) < _; omega⟩
        · by_cases hji : j < i
          · exact hq h2 j hji
          · have : j = i := by omega
            subst this
            unfold b37 at h1
            rw [decide_eq_true h2, Bool.true_and] at h1
            exact of_decide_eq_false h1
        · and_intros <;> rfl
      · have h : ¬ i < (szZ (rs2 s).w).length := by have := of_decide_eq_false h; omega
        exact not_empty fun h2 j hj => hq h2 j (by omega)
      · and_intros <;> rfl
    · refine br_of (fun h => ?_) fun h => ⟨jE, ?_⟩
      · have h : 1 < (szZ (rs2 s).w).length := by have := of_decide_eq_true h; omega
        have eg : g1 s = { (rs2 s).p with pr := (szZ (rs2 s).w).getD ((szZ (rs2 s).w).length - 1) 0, sc := (szZ (rs2 s).w).getD ((szZ (rs2 s).w).length - 1) 0 } := by unfold g1; rw [if_pos h]
        rw [show (((szZ (rs2 s).w).length : Int) - 1).toNat = (szZ (rs2 s).w).length - 1 by omega]
        refine ⟨by simp only [inR]; omega, ⟨by omega, by omega⟩, by omega, by simp only [inR]; omega, ⟨by omega, by omega⟩, by omega, jE, ?_⟩
        rw [eg]
        and_intros <;> rfl
      · have h : ¬ 1 < (szZ (rs2 s).w).length := by have := of_decide_eq_false h; omega
        have eg : g1 s = (rs2 s).p := by unfold g1; rw [if_neg h]
        rw [eg]
        and_intros <;> rfl
    · have e3 := groups_ok c2 jE.down j23.down.g
      have c3 : (rs3 s).c = 0 := by rw [e3]
      have ep : (rs3 s).p = grpP (rs2 s).w (rs2 s).p := by rw [e3]
      have ew : (splitC 44 (rs2 s).w).flatten = (rs3 s).w := by rw [e3]
      have ef : (rs2 s).f = (rs3 s).f := by rw [e3]
      have et : (rs2 s).pt = (rs3 s).pt := by rw [e3]
      refine br_of (fun h => ?_) fun h => ⟨⟨⟨c3, jE.down⟩⟩, ?_⟩
      · have h : 2 < (szZ (rs2 s).w).length := by have := of_decide_eq_true h; omega
        have eg : g1 s = { (rs2 s).p with pr := (szZ (rs2 s).w).getD ((szZ (rs2 s).w).length - 1) 0, sc := (szZ (rs2 s).w).getD ((szZ (rs2 s).w).length - 1) 0 } := by unfold g1; rw [if_pos (by omega)]
        have e4 : grpP (rs2 s).w (rs2 s).p = { (rs2 s).p with pr := (szZ (rs2 s).w).getD ((szZ (rs2 s).w).length - 1) 0, sc := (szZ (rs2 s).w).getD ((szZ (rs2 s).w).length - 2) 0 } := by unfold grpP; rw [if_pos (by omega), if_pos h]
        rw [show (((szZ (rs2 s).w).length : Int) - 2).toNat = (szZ (rs2 s).w).length - 2 by omega]
        refine ⟨by simp only [inR]; omega, ⟨by omega, by omega⟩, by omega, ⟨⟨c3, jE.down⟩⟩, ?_⟩
        rw [ep, e4, eg]
        and_intros
        all_goals first | rfl | exact ew | exact ef | exact et
      · have h : ¬ 2 < (szZ (rs2 s).w).length := by have := of_decide_eq_false h; omega
        have e4 : grpP (rs2 s).w (rs2 s).p = g1 s := by
          unfold grpP g1
          split
          · first | rfl | rw [if_neg h]
          · rfl
        rw [ep, e4]
        and_intros
        all_goals first | rfl | exact ew | exact ef | exact et
    · have g43 := j43.down
      have c3 := g43.c3
      have lw3 : (rs3 s).w.length ≤ s.length := (rs3_sub s).1.2
      have lf3 : (rs3 s).f.length ≤ s.length := (rs3_sub s).2.2
      have e3 := groups_ok c2 g43.ne j23.down.g
      have hf0 : (rs3 s).pt = false → (rs3 s).f = [] := by
        rw [e3, e2]
        intro h
        have h1 := not_found_frac 46 (numB s)
        rw [← cut_C] at h1
        exact h1 h
      have lwf : (wf s).length = (rs3 s).w.length + (rs3 s).f.length := by unfold wf; simp
      have lflt : (flt (wf s)).length ≤ (wf s).length := List.length_filter_le _ _
      refine ⟨by omega, br_of (fun h => ?_) fun hne => ⟨⟨by rw [List.length_append]; omega, br_of (fun h64 => ⟨?_, fun _ => br_of (fun h => ?_) fun h47 => ⟨⟨by omega, by omega, br_of (fun h => ?_) fun h => ⟨⟨?_⟩, ?_⟩⟩, fun j51 => ⟨by omega, ?_, fun x => ?_⟩⟩⟩) fun h64 => ⟨⟨?_, fun _ => br_of (fun h => ?_) fun h => ⟨⟨?_⟩, ?_⟩⟩, fun j57 => ⟨by omega, by omega, ⟨?_, fun x => ?_⟩, fun _ => ⟨by omega, ?_, fun _ => br_of (fun h => ?_) fun h => ?_⟩⟩⟩⟩, fun j69 => ⟨⟨?_, fun _ => br_of (fun h => ?_) fun h => ⟨⟨j69.down, h⟩, ?_⟩⟩, fun j71 => ?_⟩⟩⟩
      · have h : (rs3 s).w ++ (rs3 s).f = [] := of_decide_eq_true h
        rw [counts_fail c3 (counts_none h) (by decide)]; and_intros <;> rfl
      all_goals have hne : ¬ (rs3 s).w ++ (rs3 s).f = [] := of_decide_eq_false hne
      · refine br_of (fun h => ⟨(), ?_⟩) fun h => ⟨by omega, (), ?_⟩
        · have e : true = b47 s := by unfold b47; rw [h]; rfl
          and_intros
          all_goals first | rfl | exact e
        · have e : decide ((cntC 48 (rs3 s).w : Int) > 0) = b47 s := by
            unfold b47; rw [h, Bool.false_or, Bool.eq_iff_iff, decide_eq_true_iff, decide_eq_true_iff]; omega
          and_intros
          all_goals first | rfl | exact e
      · have h0 : 0 < cntC 64 ((rs3 s).w ++ (rs3 s).f) := Int.ofNat_lt.1 (of_decide_eq_true h64)
        have h : (rs3 s).pt = true ∨ 0 < cntC 48 (rs3 s).w := by unfold b47 at h; simpa using h
        rw [counts_fail (e := 6) c3 (by rw [counts_sig hne h0]; exact sig_mix h) (by decide)]; and_intros <;> rfl
      all_goals try have h0 : 0 < cntC 64 ((rs3 s).w ++ (rs3 s).f) := Int.ofNat_lt.1 (of_decide_eq_true h64)
      all_goals try have h47 : ¬ ((rs3 s).pt = true ∨ 0 < cntC 48 (rs3 s).w) := by (unfold b47 at h47; simpa using h47)
      · have h : rowsF 35 64 35 0 (rs3 s).w ≠ [] := by simpa using h
        rw [counts_fail (e := 4) c3 (by rw [counts_sig hne h0]; exact sig_rows h47 h) (by decide)]; and_intros <;> rfl
      · have h : rowsF 35 64 35 0 (rs3 s).w = [] := by simpa using h
        refine ⟨g43, hne, h0, h47, h, ?_⟩
        have hpt : (rs3 s).pt = false := by
          cases hp : (rs3 s).pt with
          | false => rfl
          | true => exact absurd (.inl hp) h47
        rw [hf0 hpt, List.append_nil] at h0
        exact h0
      · and_intros <;> rfl
      · refine ⟨⟨0, j51.down, Nat.zero_le _, rfl⟩, ?_⟩
        and_intros
        all_goals first | rfl | (show _ = ((rs3 s).w.length : Int) - ((0 : Nat) : Int); omega)
      · obtain ⟨j, g51, hj, hq⟩ := x
        dsimp only
        have eix : ((rs3 s).w.length : Int) - (((rs3 s).w.length : Int) - (j : Int)) = (j : Int) := by omega
        rw [eix]
        have hlt : j < (rs3 s).w.length := by
          by_cases hlt : j < (rs3 s).w.length
          · exact hlt
          · exfalso
            rw [List.drop_of_length_le (by omega)] at hq
            have h5 := g51.h5
            have hall := all_of_nil (P := (· == 35)) hq.symm
            unfold cntC at h5
            rw [List.countP_pos_iff] at h5
            obtain ⟨y, hy, h64⟩ := h5
            have h35 : (y.toNat : Int) = 35 := by simpa using hall y hy
            rw [show isC 64 y = (y == 64) from isC_ne (k := 64) (by decide) y, beq_iff_eq] at h64
            rw [h64] at h35
            exact absurd h35 (by decide)
        rw [drop_next _ 0 hlt] at hq
        rw [bAt_nat]
        refine ⟨by simp only [inR]; omega, ⟨by omega, by omega⟩, br_of (fun h => ⟨by simp only [inR]; omega, ⟨j + 1, g51, hlt, ?_⟩, ?_, by show (rs3 s).w.length - (j + 1) < _; omega⟩) fun h => ?_⟩
        · have : dropP (· == 35) ((rs3 s).w.getD j 0 :: (rs3 s).w.drop (j + 1)) = dropP (· == 35) ((rs3 s).w.drop (j + 1)) := by
            unfold dropP; rw [List.dropWhile_cons, if_pos h]
          rw [← this]; exact hq
        · and_intros
          all_goals first | rfl | (show _ = ((rs3 s).w.length : Int) - ((j + 1 : Nat) : Int); omega)
        · have hx : ((dropP (· == 35) (rs3 s).w).length : Int) = ((rs3 s).w.length : Int) - (j : Int) := by
            have : dropP (· == 35) ((rs3 s).w.getD j 0 :: (rs3 s).w.drop (j + 1)) = (rs3 s).w.getD j 0 :: (rs3 s).w.drop (j + 1) := by
              unfold dropP; rw [List.dropWhile_cons, if_neg (by show ¬ ((((rs3 s).w.getD j 0).toNat : Int) == 35) = true; rw [h]; decide)]
            rw [← hq, this, ← drop_next _ 0 hlt, List.length_drop]; omega
          have e4 := counts_done c3 ((counts_sig hne h0).trans (sig_ok (p := (rs3 s).p) h47 g51.h4 g51.h5))
          refine ⟨⟨g43, by rw [e4], by rw [e4], by rw [e4]⟩, ?_⟩
          rw [e4]
          and_intros
          all_goals first | rfl | exact hx.symm
      all_goals try have h0 : ¬ 0 < cntC 64 ((rs3 s).w ++ (rs3 s).f) := fun h' => of_decide_eq_false h64 (Int.ofNat_lt.2 h')
      · refine ⟨by omega, by omega, br_of (fun h => ⟨(), ?_⟩) fun h => ⟨by omega, by omega, (), ?_⟩⟩
        · have h : rowsF 35 48 48 0 (rs3 s).w ≠ [] := by simpa using h
          have e : true = b55 s := by unfold b55; rw [decide_eq_true h]; rfl
          and_intros
          all_goals first | rfl | exact e
        · have h : rowsF 35 48 48 0 (rs3 s).w = [] := by simpa using h
          have e : (!decide (rowsF 48 35 35 0 (rs3 s).f = [])) = b55 s := by unfold b55; rw [decide_eq_false (p := rowsF 35 48 48 0 (rs3 s).w ≠ []) (fun h' => h' h)]; simp
          and_intros
          all_goals first | rfl | exact e
      · have h : rowsF 35 48 48 0 (rs3 s).w ≠ [] ∨ rowsF 48 35 35 0 (rs3 s).f ≠ [] := by unfold b55 at h; rw [Bool.or_eq_true, decide_eq_true_iff, decide_eq_true_iff] at h; exact h
        rw [counts_fail (e := 4) c3 (counts_dig hne h0 h) (by decide)]; and_intros <;> rfl
      · have h : rowsF 35 48 48 0 (rs3 s).w = [] ∧ rowsF 48 35 35 0 (rs3 s).f = [] := by unfold b55 at h; simpa using h
        exact ⟨g43, hne, h0, h.1, h.2⟩
      · and_intros <;> rfl
      · refine ⟨⟨0, Nat.zero_le _⟩, ?_⟩
        and_intros <;> rfl
      · have hx := x.2
        refine br_of (fun h => ?_) fun h => ⟨j57, ?_⟩
        · have h : x.1 < (wf s).length := by have := of_decide_eq_true h; omega
          have hn := flt_next (wf s) h
          have hl : (flt ((wf s).take x.1)).length ≤ (wf s).length := by
            have h1 : (flt ((wf s).take x.1)).length ≤ ((wf s).take x.1).length := List.length_filter_le _ _
            rw [List.length_take] at h1; omega
          rw [bAt_nat, Int.toNat_natCast, show ((x.1 : Int) + 1).toNat = x.1 + 1 by omega, take_drop1 (wf s) h]
          refine ⟨⟨by omega, by omega⟩, br_of (fun h1 => ⟨by simp only [inR]; omega, ⟨by omega, by omega, by omega⟩, by show _ + 1 ≤ _; omega, by simp only [inR]; omega, ⟨x.1 + 1, h⟩, ?_, by show (wf s).length - (x.1 + 1) < _; omega⟩) fun h1 => ⟨by simp only [inR]; omega, ⟨x.1 + 1, h⟩, ?_, by show (wf s).length - (x.1 + 1) < _; omega⟩⟩
          · rw [if_neg (by simpa using h1)] at hn
            and_intros
            all_goals first | rfl | exact hn.symm
          · rw [if_pos (by simpa using h1), List.append_nil] at hn
            and_intros
            all_goals first | rfl | exact hn.symm
        · have h : ¬ x.1 < (wf s).length := by have := of_decide_eq_false h; omega
          rw [List.take_of_length_le (by omega)]
          and_intros <;> rfl
      all_goals try have g57 := j57.down
      · refine br_of (fun h => br_of (fun h1 => ⟨(), ?_⟩) fun h1 => ⟨(), ?_⟩) fun h => ⟨(), ?_⟩
        · have h : ¬ dropP (fun x => x == 48) (flt (wf s)) = [] := by simpa using h
          have h : (dg2 s).inc ≠ [] := h
          have h1 : (cntC 48 (rs3 s).f : Int) < (rs3 s).f.length := of_decide_eq_true h1
          have e : true = b65 s := by unfold b65; rw [decide_eq_true h, decide_eq_true h1]; rfl
          and_intros
          all_goals first | rfl | exact e
        · have h : ¬ dropP (fun x => x == 48) (flt (wf s)) = [] := by simpa using h
          have h : (dg2 s).inc ≠ [] := h
          have h1 : ¬ (cntC 48 (rs3 s).f : Int) < (rs3 s).f.length := of_decide_eq_false h1
          have e : numS s = b65 s := by unfold b65; rw [decide_eq_true h, decide_eq_false h1]; rfl
          and_intros
          all_goals first | rfl | exact e
        · have h : dropP (fun x => x == 48) (flt (wf s)) = [] := by simpa using h
          have h : ¬ (dg2 s).inc ≠ [] := fun h' => h' h
          have e : false = b65 s := by unfold b65; rw [decide_eq_false h]; rfl
          and_intros
          all_goals first | rfl | exact e
      all_goals try have ed : digP (rs3 s).w (rs3 s).f (numS s) (rs3 s).p = { dg2 s with xi := if numS s = true then ((rs3 s).w.length : Int) else (rs3 s).p.xi } := rfl
      · have h : (digP (rs3 s).w (rs3 s).f (numS s) (rs3 s).p).inc ≠ [] ∧ ((cntC 48 (rs3 s).f : Int) < (rs3 s).f.length ∨ numS s = true) := by
          unfold b65 at h
          rw [Bool.and_eq_true, Bool.or_eq_true, decide_eq_true_iff, decide_eq_true_iff] at h
          exact h
        rw [counts_fail (e := 6) c3 (counts_mix g57.h1 g57.h2 g57.h3 g57.h4 h) (by decide)]; and_intros <;> rfl
      · have h : ¬ ((digP (rs3 s).w (rs3 s).f (numS s) (rs3 s).p).inc ≠ [] ∧ ((cntC 48 (rs3 s).f : Int) < (rs3 s).f.length ∨ numS s = true)) := by
          intro h'
          unfold b65 at h
          have : (decide ((dg2 s).inc ≠ []) && (decide ((cntC 48 (rs3 s).f : Int) < (rs3 s).f.length) || numS s)) = true := by
            rw [Bool.and_eq_true, Bool.or_eq_true, decide_eq_true_iff, decide_eq_true_iff]; exact h'
          rw [h] at this; cases this
        have e4 := counts_done c3 (counts_fine (pt := (rs3 s).pt) (p := (rs3 s).p) g57.h1 g57.h2 g57.h3 g57.h4 h)
        rw [ed] at e4
        refine br_of (fun hS => ⟨⟨⟨g43, by rw [e4], by rw [e4], by rw [e4]; rfl⟩⟩, ?_⟩) fun hS => ⟨⟨⟨g43, by rw [e4], by rw [e4], by rw [e4]; rfl⟩⟩, ?_⟩
        · rw [e4, if_pos hS]
          and_intros
          all_goals first | rfl | exact hS | exact hS.symm
        · rw [e4, if_neg (by rw [hS]; decide)]
          and_intros
          all_goals first | rfl | exact hS | exact hS.symm
      all_goals have g69 : N69 s := by first | exact j69.down | exact j71.down.1
      all_goals have hw4 : 0 < (rs4 s).p.ms → (rs3 s).w ≠ [] := by (have := rs4_ms s; rw [g69.w4] at this; exact this)
      all_goals have hpr : 0 < (rs4 s).p.pr ↔ 1 < (szZ (rs2 s).w).length := by (rw [g69.pr4, e3]; exact grp_pr (by rw [e2]; exact rs1_pr s) g43.ne)
      · refine br_of (fun hS => br_of (fun h1 => ⟨(), ?_⟩) fun h1 => br_of (fun h2 => ⟨⟨by omega, ?_⟩, (), ?_⟩) fun h2 => ⟨(), ?_⟩) fun hS => ⟨(), ?_⟩
        · have h1 : 1 < (szZ (rs2 s).w).length := by have := of_decide_eq_true h1; omega
          have e : true = b69 s := by unfold b69; rw [hS, decide_eq_true h1]; rfl
          and_intros
          all_goals first | rfl | exact hS | exact hS.symm | exact e
        · have := List.length_pos_iff.2 (hw4 (of_decide_eq_true h2)); omega
        · have h1 : ¬ 1 < (szZ (rs2 s).w).length := by have := of_decide_eq_false h1; omega
          have h2 : 0 < (rs4 s).p.ms := of_decide_eq_true h2
          have e : (bAt (rs3 s).w 0 == 35) = b69 s := by unfold b69; rw [hS, decide_eq_false h1, decide_eq_true h2]; rfl
          and_intros
          all_goals first | rfl | exact hS | exact hS.symm | exact e
        · have h1 : ¬ 1 < (szZ (rs2 s).w).length := by have := of_decide_eq_false h1; omega
          have h2 : ¬ 0 < (rs4 s).p.ms := of_decide_eq_false h2
          have e : false = b69 s := by unfold b69; rw [hS, decide_eq_false h1, decide_eq_false h2]; rfl
          and_intros
          all_goals first | rfl | exact hS | exact hS.symm | exact e
        · have e : false = b69 s := by unfold b69; rw [hS]; rfl
          and_intros
          all_goals first | rfl | exact hS | exact hS.symm | exact e
      · have h6 : (rs5 s).c = 6 := by
          unfold rs5; rw [if_pos g69.c4]
          show mixedT _ _ _ = 6
          unfold mixedT
          rw [g69.w4, if_pos ((b69_iff hpr).1 h)]
        rw [num_fail5 h6 (by decide)]; and_intros <;> rfl
      · and_intros <;> rfl
      · have hmix : ¬ (numS s = true ∧ (0 < (rs4 s).p.pr ∨ 0 < (rs4 s).p.ms ∧ bAt (rs4 s).w 0 = 35)) := by
          rw [g69.w4]
          intro h'
          have := (b69_iff hpr).2 h'
          rw [j71.down.2] at this; cases this
        have long : 40 < max (rs4 s).p.mi (max (rs4 s).p.xi (max (rs4 s).p.xf (max (rs4 s).p.xs (max (rs4 s).p.pr (max (rs4 s).p.sc ((rs4 s).p.inc.length : Int)))))) → numT s = (z0, 8) := fun h => by
          refine num_fail5 ?_ (by decide)
          unfold rs5; rw [if_pos g69.c4]
          show mixedT _ _ _ = 8
          unfold mixedT
          rw [if_neg hmix, if_pos h]
        refine ⟨by omega, by decide, br_of (fun h => ?_) fun h1 => ⟨by simp only [inR]; omega, by omega, by decide, br_of (fun h => ?_) fun h2 => ⟨by simp only [inR]; omega, by omega, by decide, br_of (fun h => ?_) fun h3 => ⟨by simp only [inR]; omega, by omega, by decide, br_of (fun h => ?_) fun h4 => ⟨by simp only [inR]; omega, by omega, by decide, br_of (fun h => ?_) fun h5 => ⟨by simp only [inR]; omega, by omega, by decide, br_of (fun h => ?_) fun h6 => ⟨by simp only [inR]; omega, by omega, by decide, br_of (fun h => ?_) fun h7 => ⟨by simp only [inR]; omega, ?_⟩⟩⟩⟩⟩⟩⟩⟩
        · have h : (rs4 s).p.mi > 40 := of_decide_eq_true h
          rw [long (by omega)]; and_intros <;> rfl
        · have h : (rs4 s).p.xi > 40 := of_decide_eq_true h
          rw [long (by omega)]; and_intros <;> rfl
        · have h : (rs4 s).p.xf > 40 := of_decide_eq_true h
          rw [long (by omega)]; and_intros <;> rfl
        · have h : (rs4 s).p.xs > 40 := of_decide_eq_true h
          rw [long (by omega)]; and_intros <;> rfl
        · have h : (rs4 s).p.pr > 40 := of_decide_eq_true h
          rw [long (by omega)]; and_intros <;> rfl
        · have h : (rs4 s).p.sc > 40 := of_decide_eq_true h
          rw [long (by omega)]; and_intros <;> rfl
        · have h : ((rs4 s).p.inc.length : Int) > 40 := of_decide_eq_true h
          rw [long (by omega)]; and_intros <;> rfl
        · have h1 : ¬ (rs4 s).p.mi > 40 := of_decide_eq_false h1
          have h2 : ¬ (rs4 s).p.xi > 40 := of_decide_eq_false h2
          have h3 : ¬ (rs4 s).p.xf > 40 := of_decide_eq_false h3
          have h4 : ¬ (rs4 s).p.xs > 40 := of_decide_eq_false h4
          have h5 : ¬ (rs4 s).p.pr > 40 := of_decide_eq_false h5
          have h6 : ¬ (rs4 s).p.sc > 40 := of_decide_eq_false h6
          have h7 : ¬ ((rs4 s).p.inc.length : Int) > 40 := of_decide_eq_false h7
          have hE : numT s = ((rs4 s).p, 0) := by
            have h5 : rs5 s = ⟨0, (rs4 s).w, (rs4 s).f, (rs4 s).pt, (rs4 s).p⟩ := by
              unfold rs5; rw [if_pos g69.c4]
              have : mixedT (rs4 s).w (numS s) (rs4 s).p = 0 := by unfold mixedT; rw [if_neg hmix, if_neg (by omega)]
              rw [this]
            unfold numT; rw [h5]; rfl
          rw [hE]
          and_intros <;> rfl)
end Go.Proofs.YtglfkihckkjniaaGreatDoor.Vx
namespace Go.Proofs.YtglfkihckkjniaaGreatDoor.Vx
open Go Go.RowKit
def Elm.iv (e : Elm) : Iv := if e.pad = true then .padding e.r e.p else .single e.r e.q e.p
structure HF where
  px : List Itm
  sx : List Itm
  n : Num
  w : Int
  r : Int
  k : Int
def hf0 : HF := ⟨[], [], z0, 0, 0, 0⟩
def nP (n : Num) : Pat := ⟨[], [], false, [], [], n, 0, 0, 0⟩
def HF.pcs (h : HF) : List Pc := .rd (.items h.px) :: .rd (.items h.sx) :: ((nP h.n).pcs ++ [.int .i64 h.w, .int .i32 h.r, .int .i64 h.k])
def eL (l : List Elm) : List Iv := l.map Elm.iv
def hN (l : List Elm) : Nat := cutN (eL l)
def hE (l : List Elm) : Nat := cutE (eL l)
def hA (l : List Elm) : Nat := cutA (eL l) (hN l)
def hB (l : List Elm) : Nat := cutB (eL l) (hA l)
def hT (l : List Elm) : List UInt8 := encs ((((eL l).take (hE l)).drop (hN l)).map Iv.sR)
def halfH (l : List Elm) (b : Int) (first : Bool) : HF :=
  if (readT (eL l) b first).2.1 = 0 then ⟨(readT (eL l) b first).1.px, (readT (eL l) b first).1.sx, (readT (eL l) b first).1.n, (readT (eL l) b first).1.sp.w, (readT (eL l) b first).1.sp.r, (hT l).length⟩ else hf0
def posAt (N E n i : Nat) : Int := if i = 0 then 1 else if (i : Int) = (N : Int) - 1 then 2 else if i = E then 3 else if (i : Int) = (n : Int) - 1 then 4 else 0
def spotsE (N E n : Nat) : Nat → List Iv → List Spot
  | _, [] => []
  | i, y :: m => (if y.isP = true then [⟨y.pR, y.pP, posAt N E n i⟩] else []) ++ spotsE N E n (i + 1) m
def hSp (l : List Elm) (first : Bool) : Spot × Int × Int := paddedT (spotsE (hN l) (hE l) l.length 0 (eL l)) first
structure P18 (l : List Elm) (first : Bool) where
  i : Nat
  seen : Option Spot
  le : i ≤ l.length
  ok : ∀ x, seen = some x → x.w ≠ 0 ∧ first = true
  eq : paddedT (seen.toList ++ spotsE (hN l) (hE l) l.length i ((eL l).drop i)) first = hSp l first
def P18.w {l : List Elm} {first : Bool} (x : P18 l first) : Int := match x.seen with | some s => s.w | none => 0
def P18.r {l : List Elm} {first : Bool} (x : P18 l first) : Int := match x.seen with | some s => s.r | none => 0
def P18.k {l : List Elm} {first : Bool} (x : P18 l first) : Int := match x.seen with | some _ => 1 | none => 0
theorem eL_len (l : List Elm) : (eL l).length = l.length := List.length_map _
theorem eL_get {l : List Elm} {i : Nat} (h : i < l.length) : (eL l).getD i default = (l.getD i default).iv := by
  unfold eL
  rw [List.getD_eq_getElem?_getD, List.getD_eq_getElem?_getD, List.getElem?_map, List.getElem?_eq_getElem h]; rfl
theorem iv_isP (e : Elm) : e.iv.isP = e.pad := by unfold Elm.iv; cases e.pad <;> rfl
theorem iv_spot {e : Elm} (h : e.pad = true) : e.iv.pR = e.r ∧ e.iv.pP = e.p := by unfold Elm.iv; rw [if_pos h]; exact ⟨rfl, rfl⟩
theorem eL_drop {l : List Elm} {i : Nat} (h : i < l.length) : (eL l).drop i = (l.getD i default).iv :: (eL l).drop (i + 1) := by
  rw [drop_next (eL l) default (by rw [eL_len]; exact h), eL_get h]
def P18.zero (l : List Elm) (first : Bool) : P18 l first := ⟨0, none, Nat.zero_le _, fun x hx => (by cases hx), rfl⟩
def P18.on {l : List Elm} {first : Bool} (x : P18 l first) (h : x.i < l.length) (hp : (l.getD x.i default).pad = false) : P18 l first where
  i := x.i + 1
  seen := x.seen
  le := h
  ok := x.ok
  eq := by
    have e := x.eq
    rw [eL_drop h, spotsE, if_neg (by rw [iv_isP, hp]; decide), List.nil_append] at e
    exact e
def P18.add {l : List Elm} {first : Bool} (x : P18 l first) (h : x.i < l.length) (hp : (l.getD x.i default).pad = true) (hs : x.seen = none) (ha : posAt (hN l) (hE l) l.length x.i ≠ 0) (hf : first = true) : P18 l first where
  i := x.i + 1
  seen := some ⟨(l.getD x.i default).r, (l.getD x.i default).p, posAt (hN l) (hE l) l.length x.i⟩
  le := h
  ok := fun y hy => by cases hy; exact ⟨ha, hf⟩
  eq := by
    have e := x.eq
    rw [eL_drop h, spotsE, if_pos (by rw [iv_isP, hp]), hs, (iv_spot hp).1, (iv_spot hp).2] at e
    exact e
theorem P18.bad {l : List Elm} {first : Bool} (x : P18 l first) (h : x.i < l.length) (hp : (l.getD x.i default).pad = true) (hb : posAt (hN l) (hE l) l.length x.i = 0 ∨ x.seen ≠ none ∨ first = false) : hSp l first = (⟨0, 0, 0⟩, 7, (l.getD x.i default).p) := by
  have e := x.eq
  rw [eL_drop h, spotsE, if_pos (by rw [iv_isP, hp]), (iv_spot hp).1, (iv_spot hp).2] at e
  rw [← e]
  cases hs : x.seen with
  | none =>
    show paddedT (_ :: _) first = _
    unfold paddedT
    simp only
    rw [if_pos]
    rcases hb with hb | hb | hb
    · exact .inl hb
    · exact absurd hs hb
    · exact .inr hb
  | some y =>
    obtain ⟨h1, h2⟩ := x.ok y hs
    show paddedT (y :: _ :: _) first = _
    unfold paddedT
    simp only
    rw [if_neg (by rintro (h' | h'); exact h1 h'; rw [h2] at h'; cases h')]
theorem P18.done {l : List Elm} {first : Bool} (x : P18 l first) (h : ¬ x.i < l.length) : (hSp l first).2.1 = 0 ∧ x.w = (hSp l first).1.w ∧ x.r = (hSp l first).1.r := by
  have e := x.eq
  rw [List.drop_of_length_le (by rw [eL_len]; omega)] at e
  unfold P18.w P18.r
  cases hs : x.seen with
  | none => rw [hs] at e; rw [← e]; exact ⟨rfl, rfl, rfl⟩
  | some y =>
    obtain ⟨h1, h2⟩ := x.ok y hs
    rw [hs] at e
    rw [← e]
    show (paddedT [y] first).2.1 = 0 ∧ y.w = (paddedT [y] first).1.w ∧ y.r = (paddedT [y] first).1.r
    unfold paddedT
    simp only
    rw [if_neg (by rintro (h' | h'); exact h1 h'; rw [h2] at h'; cases h')]
    exact ⟨rfl, rfl, rfl⟩
end Go.Proofs.YtglfkihckkjniaaGreatDoor.Vx
namespace Go.Proofs.YtglfkihckkjniaaGreatDoor.Vx
open Go Go.RowKit
structure PK where
  p : Pat
  k : Int
def PK.pvs (t : PK) : List PV := [.agg t.p.pcs, .one (.int .i64 t.k)]
def cntK (k : Int) (l : List Itm) : Nat := l.countP fun x => x.k == k
def lstI (p : Pat) : Nat → List Itm
  | 0 => p.pre
  | 1 => p.suf
  | 2 => p.npre
  | _ => p.nsuf
def upI (t : PK) : Nat → Nat
  | 0 => 0
  | 1 => cntK t.k t.p.pre
  | 2 => cntK t.k t.p.pre + cntK t.k t.p.suf
  | _ => cntK t.k t.p.pre + cntK t.k t.p.suf + cntK t.k t.p.npre
def SE (t : PK) (i : Nat) (a b : Int) (x : Upto (lstI t.p i)) : Prop := t.k = t.k ∧ a = ((upI t i + cntK t.k ((lstI t.p i).take x.1) : Nat) : Int) ∧ b = (x.1 : Int) ∧ (4 : Int) = 4 ∧ (i : Int) = (i : Int) ∧ t.p.pre = t.p.pre ∧ t.p.suf = t.p.suf ∧ t.p.npre = t.p.npre ∧ t.p.nsuf = t.p.nsuf
theorem SE.mk {t : PK} {i : Nat} {a b : Int} {x : Upto (lstI t.p i)} (h1 : a = ((upI t i + cntK t.k ((lstI t.p i).take x.1) : Nat) : Int)) (h2 : b = (x.1 : Int)) : SE t i a b x := ⟨rfl, h1, h2, rfl, rfl, rfl, rfl, rfl, rfl⟩
def elE : List Tok → List Elm × Option Int
  | [] => ([], none)
  | [t] => if isStar t then ([], some t.p) else ([⟨t.r, t.q, t.p, false⟩], none)
  | t :: x :: m =>
    if isStar t then (⟨x.r, t.q, t.p, true⟩ :: (elE m).1, (elE m).2)
    else (⟨t.r, t.q, t.p, false⟩ :: (elE (x :: m)).1, (elE (x :: m)).2)
structure EE (l : List Tok) where
  n : Nat
  ps : List Elm
  le : n ≤ l.length
  few : ps.length ≤ n
  fin1 : ps ++ (elE (l.drop n)).1 = (elE l).1
  fin2 : (elE (l.drop n)).2 = (elE l).2
def els (s : List UInt8) : List Elm := (elE (scanT s).1).1
def semA (s : List UInt8) : Nat := aheadN (eL (els s))
structure S18 (s : List UInt8) where
  i : Nat
  ok : C7 s
  le : i ≤ (els s).length
  one : ∀ j, semA s < j → j < i → isIn [59] ((eL (els s)).getD j default) = false
def S18.sem {s : List UInt8} (x : S18 s) : Int := if x.i ≤ semA s then -1 else (semA s : Int)
def semZ (s : List UInt8) : Int := if semA s < (els s).length then (semA s : Int) else -1
def h1 (s : List UInt8) : HF := halfH ((els s).take (semA s)) 0 true
def h2 (s : List UInt8) : HF := halfH ((els s).drop (semA s + 1)) (((els s).getD (semA s) default).p + 1) false
def HF.sc (a b c d e f : Nat) (h : HF) : List SC := .slc a :: .slc b :: ((nP h.n).sc c d e f ++ [.int .i64 h.w, .int .i32 h.r, .int .i64 h.k])
theorem elE_iv : ∀ (n : Nat) (l : List Tok), l.length ≤ n → (elE l).1.map Elm.iv = (elemsL l).1 ∧ (elE l).2 = (elemsL l).2 ∧ (elE l).1.length ≤ l.length := by
  intro n
  induction n with
  | zero =>
    intro l hn
    have : l = [] := List.eq_nil_of_length_eq_zero (by omega)
    subst this
    exact ⟨rfl, rfl, Nat.le_refl _⟩
  | succ n ih =>
    intro l hn
    match l, hn with
    | [], _ => exact ⟨rfl, rfl, Nat.le_refl _⟩
    | [t], hn =>
      unfold elE elemsL
      split
      · exact ⟨rfl, rfl, Nat.zero_le _⟩
      · exact ⟨rfl, rfl, Nat.le_refl _⟩
    | t :: x :: m, hn =>
      unfold elE elemsL
      split
      · obtain ⟨h1, h2, h3⟩ := ih m (by simp at hn; omega)
        exact ⟨by rw [List.map_cons, h1]; rfl, h2, by simp; omega⟩
      · obtain ⟨h1, h2, h3⟩ := ih (x :: m) (by simp at hn ⊢; omega)
        exact ⟨by rw [List.map_cons, h1]; rfl, h2, by simp at h3 ⊢; omega⟩
theorem elR_none {l : List Tok} (h : (elE l).2 = none) : (elemsR l).2.1 = 0 ∧ (elemsR l).1 = eL (elE l).1 := by
  obtain ⟨h1, h2, _⟩ := elE_iv l.length l (Nat.le_refl _)
  rw [h2] at h
  unfold elemsR eL
  rw [h, h1]; exact ⟨rfl, rfl⟩
theorem elR_some {l : List Tok} {p : Int} (h : (elE l).2 = some p) : (elemsR l).2 = (7, p) := by
  obtain ⟨_, h2, _⟩ := elE_iv l.length l (Nat.le_refl _)
  rw [h2] at h
  unfold elemsR
  rw [h]
def EE.zero (l : List Tok) : EE l := ⟨0, [], Nat.zero_le _, Nat.le_refl _, rfl, rfl⟩
def EE.two {l : List Tok} (x : EE l) (h : x.n + 1 < l.length) (hs : isStar (l.getD x.n default) = true) : EE l where
  n := x.n + 2
  ps := x.ps ++ [⟨(l.getD (x.n + 1) default).r, (l.getD x.n default).q, (l.getD x.n default).p, true⟩]
  le := by omega
  few := by have := x.few; simp; omega
  fin1 := by
    have e := x.fin1
    rw [drop_next l default (by omega : x.n < l.length), drop_next l default h] at e
    rw [← e, List.append_assoc]
    congr 1
    conv => rhs; unfold elE
    rw [if_pos hs]; rfl
  fin2 := by
    have e := x.fin2
    rw [drop_next l default (by omega : x.n < l.length), drop_next l default h] at e
    rw [← e]
    conv => rhs; unfold elE
    rw [if_pos hs]
def EE.one {l : List Tok} (x : EE l) (h : x.n < l.length) (hs : isStar (l.getD x.n default) = false) : EE l where
  n := x.n + 1
  ps := x.ps ++ [⟨(l.getD x.n default).r, (l.getD x.n default).q, (l.getD x.n default).p, false⟩]
  le := h
  few := by have := x.few; simp; omega
  fin1 := by
    have e := x.fin1
    rw [drop_next l default h] at e
    rw [← e, List.append_assoc]
    congr 1
    cases hd : l.drop (x.n + 1) with
    | nil => conv => rhs; unfold elE
             rw [if_neg (by rw [hs]; decide)]; rfl
    | cons y m => conv => rhs; unfold elE
                  rw [if_neg (by rw [hs]; decide)]; rfl
  fin2 := by
    have e := x.fin2
    rw [drop_next l default h] at e
    rw [← e]
    cases hd : l.drop (x.n + 1) with
    | nil => conv => rhs; unfold elE
             rw [if_neg (by rw [hs]; decide)]; rfl
    | cons y m => conv => rhs; unfold elE
                  rw [if_neg (by rw [hs]; decide)]
def SignOK (l : List Itm) : Prop := ∀ x ∈ l, x.k = 1 ∨ x.r = 0
theorem SignOK.app {a b : List Itm} (h : SignOK a) (k : SignOK b) : SignOK (a ++ b) := fun x hx => by
  rcases List.mem_append.1 hx with hx | hx
  · exact h x hx
  · exact k x hx
end Go.Proofs.YtglfkihckkjniaaGreatDoor.Vx
namespace Go.Proofs.YtglfkihckkjniaaGreatDoor.Vx
open Go Go.RowKit
theorem SignOK.itemsL : ∀ (l : List Tok), SignOK (itemsL l).1
  | [] => fun x hx => (by cases hx)
  | t :: m => by
    unfold Vx.itemsL
    split
    · exact fun x hx => (by cases hx)
    · intro x hx
      rcases List.mem_cons.1 hx with hx | hx
      · subst hx
        unfold Itm.of
        split
        · exact .inr rfl
        · exact .inl rfl
      · exact SignOK.itemsL m x hx
theorem SignOK.items (l : List Tok) : SignOK (itemsR l).1 := by
  unfold itemsR
  split
  · exact fun x hx => (by cases hx)
  · split
    · exact fun x hx => (by cases hx)
    · exact SignOK.itemsL l
theorem SignOK.nil : SignOK [] := fun x hx => (by cases hx)
theorem C7.none {s : List UInt8} (h : C7 s) : (elE (scanT s).1).2 = none := by
  cases hp : (elE (scanT s).1).2 with
  | none => rfl
  | some p =>
    have := h.h2
    rw [elR_some hp] at this
    exact absurd this (show ¬ (7 : Int) = 0 by decide)
theorem C7.cm {s : List UInt8} (h : C7 s) : cmL s = eL (els s) := (elR_none h.none).2
theorem C7.sem {s : List UInt8} (h : C7 s) : aheadN (cmL s) = semA s := by rw [h.cm]; rfl
theorem C7.of {s : List UInt8} (h1 : (scanT s).2.1 = 0) (h2 : (elE (scanT s).1).2 = Option.none) : C7 s := ⟨h1, (elR_none h2).1⟩
theorem semA_le (s : List UInt8) : semA s ≤ (els s).length := by
  have h : semA s ≤ (eL (els s)).length := List.findIdx_le_length
  rwa [eL_len] at h
theorem semA_before {s : List UInt8} {j : Nat} (h : j < semA s) : isIn [59] ((eL (els s)).getD j default) = false := by
  have hl : j < (eL (els s)).length := by rw [eL_len]; exact Nat.lt_of_lt_of_le h (semA_le s)
  have h' : j < (eL (els s)).findIdx (isIn [59]) := h
  have := List.not_of_lt_findIdx h'
  rw [List.getD_eq_getElem?_getD, List.getElem?_eq_getElem hl]
  simpa using this
def S18.zero {s : List UInt8} (c : C7 s) : S18 s := ⟨0, c, Nat.zero_le _, fun j _ h2 => absurd h2 (Nat.not_lt_zero _)⟩
def S18.on {s : List UInt8} (x : S18 s) (h : x.i < (els s).length) (hf : isIn [59] ((eL (els s)).getD x.i default) = false) : S18 s :=
  ⟨x.i + 1, x.ok, h, fun j h1 h2 => by
    rcases Nat.lt_succ_iff_lt_or_eq.1 h2 with h3 | h3
    · exact x.one j h1 h3
    · rw [h3]; exact hf⟩
theorem S18.first {s : List UInt8} (x : S18 s) (h : x.i < (els s).length) (hf : isIn [59] ((eL (els s)).getD x.i default) = true) (hs : ¬ x.sem ≥ 0) : x.i = semA s := by
  rcases Nat.lt_trichotomy x.i (semA s) with h1 | h1 | h1
  · rw [semA_before h1] at hf; cases hf
  · exact h1
  · exact absurd (by unfold S18.sem; rw [if_neg (by omega)]; omega) hs
def S18.fst {s : List UInt8} (x : S18 s) (h : x.i < (els s).length) (he : x.i = semA s) : S18 s :=
  ⟨x.i + 1, x.ok, h, fun j h1 h2 => by omega⟩
theorem behind_eq {s : List UInt8} (h : C7 s) : behindL (cmL s) = (eL (els s)).drop (semA s + 1) := by
  unfold behindL
  rw [h.sem, h.cm, eL_len]
  by_cases hh : semA s + 1 ≤ (els s).length
  · rw [Nat.min_eq_left hh]
  · rw [List.drop_of_length_le (by rw [eL_len]; omega), List.drop_of_length_le (by rw [eL_len]; omega)]
theorem S18.done {s : List UInt8} (x : S18 s) (h : ¬ x.i < (els s).length) : C12 s ∧ x.sem = semZ s := by
  have hi : x.i = (els s).length := Nat.le_antisymm x.le (Nat.le_of_not_lt h)
  refine ⟨⟨x.ok, fun hlt => ?_⟩, ?_⟩
  · have hb := behind_eq x.ok
    have e2 : isIn [59] ((behindL (cmL s)).getD (aheadN (behindL (cmL s))) default) = true := by
      have := List.findIdx_getElem (w := hlt)
      rw [List.getD_eq_getElem?_getD, List.getElem?_eq_getElem hlt]
      exact this
    have hl : (behindL (cmL s)).length = (els s).length - (semA s + 1) := by rw [hb, List.length_drop, eL_len]
    rw [show (behindL (cmL s)).getD (aheadN (behindL (cmL s))) default = (eL (els s)).getD (semA s + 1 + aheadN (behindL (cmL s))) default by
      conv => lhs; arg 1; rw [hb]
      rw [List.getD_eq_getElem?_getD, List.getD_eq_getElem?_getD, List.getElem?_drop], x.one _ (by omega) (by omega)] at e2
    cases e2
  · have := semA_le s
    unfold S18.sem semZ
    rw [hi]
    split <;> split <;> omega
end Go.Proofs.YtglfkihckkjniaaGreatDoor.Vx
namespace Go.Proofs.YtglfkihckkjniaaGreatDoor.Vx
open Go Go.RowKit
theorem num_codes {s : List UInt8} (h : (numT s).2 = 0) : (rs1 s).c = 0 ∧ (rs2 s).c = 0 ∧ (rs3 s).c = 0 ∧ (rs4 s).c = 0 := by
  have h5 : (rs5 s).c = 0 := by
    unfold numT at h
    split at h
    · assumption
    · exact h
  have h4 : (rs4 s).c = 0 := by
    unfold rs5 at h5
    split at h5
    · assumption
    · exact h5
  have h3 : (rs3 s).c = 0 := by
    have h4 := h4
    unfold rs4 at h4
    split at h4
    · assumption
    · exact h4
  have h2 : (rs2 s).c = 0 := by
    have h3 := h3
    unfold rs3 at h3
    split at h3
    · assumption
    · exact h3
  have h1 : (rs1 s).c = 0 := by
    have h2 := h2
    unfold rs2 at h2
    split at h2
    · assumption
    · exact h2
  exact ⟨h1, h2, h3, h4⟩
theorem num_split (s : List UInt8) : s = numB s ++ if numS s = true then 69 :: numX s else [] := by
  unfold numB numS numX
  rw [cut_C]
  induction s with
  | nil => rfl
  | cons x l ih =>
    unfold cutC
    split
    · rename_i h; subst h; rfl
    · show x :: l = x :: _
      congr 1
theorem num_exp {s : List UInt8} (h : (numT s).2 = 0) (hs : numS s = true) : dropP (· == 48) (Lib.trimPrefix (numX s) [43]) = [] ∧ span1 (· == 48) (Lib.trimPrefix (numX s) [43]) ≠ 0 := by
  have h1 := (num_codes h).1
  have h1 : (expT (numX s) (numS s) z0).1 = 0 := h1
  unfold expT at h1
  rw [if_pos hs] at h1
  split at h1
  · exact absurd h1 (show ¬ (4 : Int) = 0 by decide)
  · rename_i hn
    exact ⟨Classical.byContradiction fun hx => hn (.inl hx), fun hx => hn (.inr hx)⟩
theorem num_odd {s : List UInt8} (h : (numT s).2 = 0) : anyP isOdd (numB s) = false := by
  obtain ⟨h1, h2, _, _⟩ := num_codes h
  unfold rs2 at h2
  rw [if_pos h1] at h2
  have h2 : (partsT (numB s) [] [] false).1 = 0 := h2
  unfold partsT at h2
  split at h2
  · exact absurd h2 (show ¬ (4 : Int) = 0 by decide)
  · rename_i hn
    cases ho : anyP isOdd (numB s) with
    | false => rfl
    | true => exact absurd (.inl ho) hn
theorem num_ne {s : List UInt8} (h : (numT s).2 = 0) : numB s ≠ [] := by
  intro hB
  obtain ⟨h1, h2, h3, h4⟩ := num_codes h
  have e2 : rs2 s = ⟨0, [], [], false, (rs1 s).p⟩ := by
    unfold rs2; rw [if_pos h1, hB]; rfl
  have e3 : rs3 s = ⟨0, [], [], false, (rs1 s).p⟩ := by
    unfold rs3; rw [e2]; rfl
  unfold rs4 at h4
  rw [e3] at h4
  exact absurd h4 (show ¬ (4 : Int) = 0 by decide)
theorem num_body {s : List UInt8} (h : (numT s).2 = 0) : ∀ x ∈ numB s, hasR bodyC (x.toNat : Int) = true := by
  have ho := num_odd h
  intro x hx
  have hf : isOdd (x.toNat : Int) = false := by
    unfold anyP at ho
    cases hq : isOdd (x.toNat : Int) with
    | false => rfl
    | true => rw [List.any_eq_true.2 ⟨x, hx, hq⟩] at ho; cases ho
  have key : ∀ n : Fin 256, isOdd (n.1 : Int) = false → hasR bodyC (n.1 : Int) = true := by decide +kernel
  exact key ⟨x.toNat, x.toNat_lt⟩ hf
end Go.Proofs.YtglfkihckkjniaaGreatDoor.Vx
namespace Go.Proofs.YtglfkihckkjniaaGreatDoor.Vx
open Go Go.RowKit
theorem scanN_fuel : ∀ (n : Nat) (l : List Int) (a o : Int), Scalars l → l.length ≤ n → scanN n l a o = scanN l.length l a o := by
  intro n
  induction n using Nat.strongRecOn with
  | _ n ih =>
    intro l a o hl hn
    cases l with
    | nil => cases n <;> rfl
    | cons r m =>
      cases n with
      | zero => simp at hn
      | succ n =>
        have hf := scanStep_facts hl (by simp) a o
        have h1 : (scanStep (r :: m) a o).1.length ≤ m.length := by have := hf.2.1; simp at this; omega
        have hm : m.length ≤ n := by simpa using hn
        show _ = scanN (m.length + 1) (r :: m) a o
        unfold scanN
        dsimp only
        rw [ih n (by omega) _ _ _ hf.1 (by omega), ih m.length (by omega) _ _ _ hf.1 h1]
def scanL (l : List Int) (a o : Int) : Int × List Iv := scanN l.length l a o
theorem scanL_cons {r : Int} {m : List Int} (h : Scalars (r :: m)) (a o : Int) : scanL (r :: m) a o = ((scanL (scanStep (r :: m) a o).1 (scanStep (r :: m) a o).2.1 (scanStep (r :: m) a o).2.2.1).1, (scanStep (r :: m) a o).2.2.2 ++ (scanL (scanStep (r :: m) a o).1 (scanStep (r :: m) a o).2.1 (scanStep (r :: m) a o).2.2.1).2) := by
  have hf := scanStep_facts h (by simp) a o
  have h1 : (scanStep (r :: m) a o).1.length ≤ m.length := by have := hf.2.1; simp at this; omega
  have hd : scanL (scanStep (r :: m) a o).1 (scanStep (r :: m) a o).2.1 (scanStep (r :: m) a o).2.2.1 = scanN m.length (scanStep (r :: m) a o).1 (scanStep (r :: m) a o).2.1 (scanStep (r :: m) a o).2.2.1 := (scanN_fuel m.length _ _ _ hf.1 h1).symm
  rw [hd]
  rfl
theorem scanL_nil (a o : Int) : scanL [] a o = (o, []) := rfl
def Iv.rq (y : Iv) : Int × Bool := (y.tok.r, y.tok.q)
def Steps (u : List Int) (a o : Int) (ts : List (Int × Bool)) (o' : Int) (m : List Int) : Prop :=
  ∃ ys : List Iv, ys.map Iv.rq = ts ∧ scanL (u ++ m) a o = ((scanL m (a + (encs u).length) o').1, ys ++ (scanL m (a + (encs u).length) o').2)
theorem Steps.trans {u v m : List Int} {a o o1 o2 : Int} {t1 t2 : List (Int × Bool)} (h : Steps u a o t1 o1 (v ++ m)) (k : Steps v (a + (encs u).length) o1 t2 o2 m) : Steps (u ++ v) a o (t1 ++ t2) o2 m := by
  obtain ⟨ys, h1, h2⟩ := h
  obtain ⟨zs, k1, k2⟩ := k
  refine ⟨ys ++ zs, by rw [List.map_append, h1, k1], ?_⟩
  have e : a + ((encs u).length : Int) + ((encs v).length : Int) = a + ((encs (u ++ v)).length : Int) := by rw [encs_append, List.length_append]; omega
  rw [e] at k2
  rw [List.append_assoc, h2, k2, List.append_assoc]
theorem Steps.nil (a o : Int) (m : List Int) : Steps [] a o [] o m := ⟨[], rfl, by simp [encs_nil]⟩
theorem scalars_append {l m : List Int} : Scalars (l ++ m) ↔ Scalars l ∧ Scalars m := by
  unfold Scalars
  exact ⟨fun h => ⟨fun r hr => h r (List.mem_append_left _ hr), fun r hr => h r (List.mem_append_right _ hr)⟩, fun h r hr => (List.mem_append.1 hr).elim (h.1 r) (h.2 r)⟩
theorem scalars_cons {r : Int} {m : List Int} : Scalars (r :: m) ↔ scalar r = true ∧ Scalars m := by
  unfold Scalars
  exact ⟨fun h => ⟨h r List.mem_cons_self, fun x hx => h x (List.mem_cons_of_mem _ hx)⟩, fun h x hx => (List.mem_cons.1 hx).elim (fun e => e ▸ h.1) (h.2 x)⟩
theorem scalars_nil : Scalars [] := fun r h => by cases h
theorem scalar39 : scalar 39 = true := by decide
theorem steps_plain {r : Int} {m : List Int} {a o : Int} (hr : scalar r = true) (hm : Scalars m) (h : r ≠ 39) (ho : o < 0) : Steps [r] a o [(r, false)] o m := by
  refine ⟨[.plain r a], rfl, ?_⟩
  show scanL (r :: m) a o = _
  have e : scanStep (r :: m) a o = (m, a + (enc r).length, o, [.plain r a]) := by unfold scanStep; dsimp only; rw [if_neg h, if_pos ho]
  rw [scanL_cons (scalars_cons.2 ⟨hr, hm⟩), e, encs_one]
theorem steps_quoted {r : Int} {m : List Int} {a o : Int} (hr : scalar r = true) (hm : Scalars m) (h : r ≠ 39) (ho : ¬ o < 0) : Steps [r] a o [(r, true)] o m := by
  refine ⟨[.quoted r a], rfl, ?_⟩
  show scanL (r :: m) a o = _
  have e : scanStep (r :: m) a o = (m, a + (enc r).length, o, [.quoted r a]) := by unfold scanStep; dsimp only; rw [if_neg h, if_neg ho]
  rw [scanL_cons (scalars_cons.2 ⟨hr, hm⟩), e, encs_one]
theorem steps_twice {m : List Int} {a o : Int} (hm : Scalars m) : Steps [39, 39] a o [(39, true)] o m := by
  refine ⟨[.quoted 39 a], rfl, ?_⟩
  show scanL (39 :: 39 :: m) a o = _
  have e : scanStep (39 :: 39 :: m) a o = (m, a + 1 + 1, o, [.quoted 39 a]) := by unfold scanStep; dsimp only; rw [if_pos rfl, if_pos rfl]
  have e2 : ((encs [39, 39]).length : Int) = 1 + 1 := by rw [encs_cons, encs_one, List.length_append, enc39]; rfl
  rw [scanL_cons (scalars_cons.2 ⟨scalar39, scalars_cons.2 ⟨scalar39, hm⟩⟩), e, e2, ← Int.add_assoc]
theorem step_one {m : List Int} {a o : Int} (h : m.head? ≠ some 39) : scanStep (39 :: m) a o = if o < 0 then (m, a + 1, a, []) else (m, a + 1, -1, []) := by
  unfold scanStep
  dsimp only
  rw [if_pos rfl]
  cases m with
  | nil => rfl
  | cons x t =>
    have hx : x ≠ 39 := fun e => h (by rw [e]; rfl)
    dsimp only
    rw [if_neg hx]
theorem steps_open {m : List Int} {a o : Int} (hm : Scalars m) (h : m.head? ≠ some 39) (ho : o < 0) : Steps [39] a o [] a m := by
  refine ⟨[], rfl, ?_⟩
  show scanL (39 :: m) a o = _
  have e := step_one (a := a) (o := o) h
  rw [if_pos ho] at e
  have e2 : ((encs [39]).length : Int) = 1 := by rw [encs_one, enc39]; rfl
  rw [scanL_cons (scalars_cons.2 ⟨scalar39, hm⟩), e, e2]
theorem steps_close {m : List Int} {a o : Int} (hm : Scalars m) (h : m.head? ≠ some 39) (ho : ¬ o < 0) : Steps [39] a o [] (-1) m := by
  refine ⟨[], rfl, ?_⟩
  show scanL (39 :: m) a o = _
  have e := step_one (a := a) (o := o) h
  rw [if_neg ho] at e
  have e2 : ((encs [39]).length : Int) = 1 := by rw [encs_one, enc39]; rfl
  rw [scanL_cons (scalars_cons.2 ⟨scalar39, hm⟩), e, e2]
def dbl (w : List Int) : List Int := w.flatMap fun r => if r = 39 then [39, 39] else [r]
def rowC (w : List Int) : List Int := if (w.all fun r => r == 39) = true then dbl w else 39 :: (dbl w ++ [39])
def quo (w : List Int) : List (Int × Bool) := w.map fun r => (r, true)
theorem dbl_cons (r : Int) (w : List Int) : dbl (r :: w) = (if r = 39 then [39, 39] else [r]) ++ dbl w := rfl
theorem dbl_scalars {w : List Int} (h : Scalars w) : Scalars (dbl w) := by
  induction w with
  | nil => exact scalars_nil
  | cons r w ih =>
    obtain ⟨h1, h2⟩ := scalars_cons.1 h
    rw [dbl_cons, scalars_append]
    refine ⟨?_, ih h2⟩
    split
    · exact scalars_cons.2 ⟨scalar39, scalars_cons.2 ⟨scalar39, scalars_nil⟩⟩
    · exact scalars_cons.2 ⟨h1, scalars_nil⟩
theorem steps_in {m : List Int} (hm : Scalars m) {o : Int} (ho : ¬ o < 0) : ∀ (w : List Int) (a : Int), Scalars w → Steps (dbl w) a o (quo w) o m := by
  intro w
  induction w with
  | nil => intro a _; exact Steps.nil a o m
  | cons r w ih =>
    intro a h
    obtain ⟨h1, h2⟩ := scalars_cons.1 h
    rw [dbl_cons]
    show Steps _ a o ([(r, true)] ++ quo w) o m
    have hd : Scalars (dbl w ++ m) := scalars_append.2 ⟨dbl_scalars h2, hm⟩
    refine Steps.trans (o1 := o) ?_ (ih _ h2)
    split
    · rename_i e; rw [e]; exact steps_twice hd
    · rename_i e; exact steps_quoted h1 hd e ho
theorem steps_all {m : List Int} (hm : Scalars m) {o : Int} : ∀ (w : List Int) (a : Int), (∀ r ∈ w, r = 39) → Steps (dbl w) a o (quo w) o m := by
  intro w
  induction w with
  | nil => intro a _; exact Steps.nil a o m
  | cons r w ih =>
    intro a h
    have h1 : r = 39 := h r List.mem_cons_self
    have h2 : ∀ r ∈ w, r = 39 := fun x hx => h x (List.mem_cons_of_mem _ hx)
    have hw : Scalars w := fun x hx => by rw [h2 x hx]; exact scalar39
    rw [dbl_cons]
    show Steps _ a o ([(r, true)] ++ quo w) o m
    have hd : Scalars (dbl w ++ m) := scalars_append.2 ⟨dbl_scalars hw, hm⟩
    refine Steps.trans (o1 := o) ?_ (ih _ h2)
    rw [if_pos h1, h1]; exact steps_twice hd
theorem steps_opened {m : List Int} (hm : Scalars m) : ∀ (w : List Int) (a : Int), 0 ≤ a → Scalars w → ¬ (∀ r ∈ w, r = 39) → ∃ o', ¬ o' < 0 ∧ Steps (39 :: dbl w) a (-1) (quo w) o' m := by
  intro w
  induction w with
  | nil => intro a _ _ h; exact absurd (fun r hr => by cases hr) h
  | cons r w ih =>
    intro a ha h hn
    obtain ⟨h1, h2⟩ := scalars_cons.1 h
    have hd : Scalars (dbl w ++ m) := scalars_append.2 ⟨dbl_scalars h2, hm⟩
    by_cases e : r = 39
    · have hn2 : ¬ ∀ r ∈ w, r = 39 := fun k => hn fun x hx => (List.mem_cons.1 hx).elim (fun q => q.trans e) (k x)
      obtain ⟨o', k1, k2⟩ := ih (a + ((encs [39, 39]).length : Nat)) (by omega) h2 hn2
      refine ⟨o', k1, ?_⟩
      rw [dbl_cons, if_pos e, e]
      show Steps ([39, 39] ++ (39 :: dbl w)) a (-1) ([(39, true)] ++ quo w) o' m
      exact Steps.trans (steps_twice (scalars_cons.2 ⟨scalar39, hd⟩)) k2
    · refine ⟨a, by omega, ?_⟩
      rw [dbl_cons, if_neg e]
      show Steps ([39] ++ ([r] ++ dbl w)) a (-1) ([] ++ ([(r, true)] ++ quo w)) a m
      refine Steps.trans (steps_open ?_ (fun k => e ?_) (by decide)) (Steps.trans (steps_quoted h1 hd e (by omega)) (steps_in hm (by omega) _ _ h2))
      · exact scalars_cons.2 ⟨h1, hd⟩
      · exact Option.some.inj k
def Sc (u : List Int) (ts : List (Int × Bool)) : Prop := Scalars u ∧ ∀ m a, Scalars m → 0 ≤ a → Steps u a (-1) ts (-1) m
def ScQ (u : List Int) (ts : List (Int × Bool)) : Prop := Scalars u ∧ ∀ m a, Scalars m → 0 ≤ a → m.head? ≠ some 39 → Steps u a (-1) ts (-1) m
theorem Sc.q {u : List Int} {ts : List (Int × Bool)} (h : Sc u ts) : ScQ u ts := ⟨h.1, fun m a hm ha _ => h.2 m a hm ha⟩
theorem Sc.nil : Sc [] [] := ⟨scalars_nil, fun m a _ _ => Steps.nil a (-1) m⟩
theorem Sc.one {r : Int} (h1 : scalar r = true) (h : r ≠ 39) : Sc [r] [(r, false)] := ⟨scalars_cons.2 ⟨h1, scalars_nil⟩, fun m a hm _ => steps_plain h1 hm h (by decide)⟩
theorem Sc.two : Sc [39, 39] [(39, true)] := ⟨scalars_cons.2 ⟨scalar39, scalars_cons.2 ⟨scalar39, scalars_nil⟩⟩, fun m a hm _ => steps_twice hm⟩
theorem Sc.then {u v : List Int} {t1 t2 : List (Int × Bool)} (h : Sc u t1) (k : Sc v t2) : Sc (u ++ v) (t1 ++ t2) :=
  ⟨scalars_append.2 ⟨h.1, k.1⟩, fun m a hm ha => Steps.trans (h.2 _ a (scalars_append.2 ⟨k.1, hm⟩) ha) (k.2 m _ hm (by omega))⟩
theorem Sc.thenQ {u v : List Int} {t1 t2 : List (Int × Bool)} (h : Sc u t1) (k : ScQ v t2) : ScQ (u ++ v) (t1 ++ t2) :=
  ⟨scalars_append.2 ⟨h.1, k.1⟩, fun m a hm ha hh => Steps.trans (h.2 _ a (scalars_append.2 ⟨k.1, hm⟩) ha) (k.2 m _ hm (by omega) hh)⟩
theorem head_append {v m : List Int} (h : v.head? ≠ some 39) (hv : v ≠ []) : (v ++ m).head? ≠ some 39 := by
  cases v with
  | nil => exact absurd rfl hv
  | cons x t => exact h
theorem head_append2 {v m : List Int} (h : v.head? ≠ some 39) (hm : m.head? ≠ some 39) : (v ++ m).head? ≠ some 39 := by
  cases v with
  | nil => exact hm
  | cons x t => exact h
theorem ScQ.then {u v : List Int} {t1 t2 : List (Int × Bool)} (h : ScQ u t1) (k : Sc v t2) (hv : v.head? ≠ some 39) (hn : v ≠ []) : Sc (u ++ v) (t1 ++ t2) :=
  ⟨scalars_append.2 ⟨h.1, k.1⟩, fun m a hm ha => Steps.trans (h.2 _ a (scalars_append.2 ⟨k.1, hm⟩) ha (head_append hv hn)) (k.2 m _ hm (by omega))⟩
theorem ScQ.thenQ {u v : List Int} {t1 t2 : List (Int × Bool)} (h : ScQ u t1) (k : ScQ v t2) (hv : v.head? ≠ some 39) : ScQ (u ++ v) (t1 ++ t2) :=
  ⟨scalars_append.2 ⟨h.1, k.1⟩, fun m a hm ha hh => Steps.trans (h.2 _ a (scalars_append.2 ⟨k.1, hm⟩) ha (head_append2 hv hh)) (k.2 m _ hm (by omega) hh)⟩
theorem row_sc {w : List Int} (h : Scalars w) : ScQ (rowC w) (quo w) := by
  unfold rowC
  split
  · rename_i ha
    have ha : ∀ r ∈ w, r = 39 := fun r hr => eq_of_beq (List.all_eq_true.1 ha r hr)
    exact ⟨dbl_scalars h, fun m a hm _ _ => steps_all hm w a ha⟩
  · rename_i ha
    have ha : ¬ ∀ r ∈ w, r = 39 := fun k => ha (List.all_eq_true.2 fun r hr => by rw [k r hr]; rfl)
    refine ⟨scalars_cons.2 ⟨scalar39, scalars_append.2 ⟨dbl_scalars h, scalars_cons.2 ⟨scalar39, scalars_nil⟩⟩⟩, fun m a hm h0 hh => ?_⟩
    obtain ⟨o', k1, k2⟩ := steps_opened (m := [39] ++ m) (scalars_cons.2 ⟨scalar39, hm⟩) w a h0 h ha
    have := Steps.trans k2 (steps_close hm hh k1)
    rw [List.append_nil] at this
    exact this
def prT : List (Int × Bool) → List Int → List Int
  | [], w => rowC w
  | (r, true) :: l, w => prT l (w ++ [r])
  | (r, false) :: l, w => rowC w ++ r :: prT l []
def TokOK (l : List (Int × Bool)) : Prop := ∀ t ∈ l, scalar t.1 = true ∧ (t.2 = false → t.1 ≠ 39)
theorem TokOK.cons {t : Int × Bool} {l : List (Int × Bool)} (h : TokOK (t :: l)) : (scalar t.1 = true ∧ (t.2 = false → t.1 ≠ 39)) ∧ TokOK l := ⟨h t List.mem_cons_self, fun x hx => h x (List.mem_cons_of_mem _ hx)⟩
theorem prT_sc : ∀ (l : List (Int × Bool)) (w : List Int), TokOK l → Scalars w → ScQ (prT l w) (quo w ++ l) := by
  intro l
  induction l with
  | nil => intro w _ hw; rw [List.append_nil]; exact row_sc hw
  | cons t l ih =>
    intro w h hw
    obtain ⟨⟨h1, h2⟩, h3⟩ := h.cons
    obtain ⟨r, q⟩ := t
    cases q with
    | true =>
      have := ih (w ++ [r]) h3 (hw.snoc h1)
      unfold quo at this ⊢
      rw [List.map_append, List.append_assoc] at this
      exact this
    | false =>
      have k := Sc.thenQ (Sc.one h1 (h2 rfl)) (ih [] h3 scalars_nil)
      exact ScQ.thenQ (row_sc hw) k (fun e => h2 rfl (Option.some.inj e))
theorem scanT_of {u : List Int} {ts : List (Int × Bool)} (h : ScQ u ts) : ∃ T : List Tok, T.map (fun t => (t.r, t.q)) = ts ∧ scanT (encs u) = if 400 < ts.length then ([], 8, 0) else (T, 0, 0) := by
  obtain ⟨ys, h1, h2⟩ := h.2 [] 0 scalars_nil (by decide) (by simp)
  have hd := decomp_encs h.1
  have hb : badAt (encs u) = -1 := by unfold badAt; rw [hd, if_pos rfl]
  have hF : scanF (encs u) = (-1, ys) := by
    unfold scanF
    rw [hd]
    show scanL u 0 (-1) = _
    rw [List.append_nil] at h2
    rw [h2, scanL_nil, List.append_nil]
  refine ⟨ys.map Iv.tok, by rw [← h1, List.map_map]; rfl, ?_⟩
  unfold scanT
  rw [hb, hF, if_neg (by decide), if_neg (show ¬ (0 : Int) ≤ -1 by decide)]
  have : ts.length = ys.length := by rw [← h1, List.length_map]
  rw [this]
end Go.Proofs.YtglfkihckkjniaaGreatDoor.Vx
namespace Go.Proofs.YtglfkihckkjniaaGreatDoor.Vx
open Go Go.RowKit
def joinC (c : UInt8) : List (List UInt8) → List UInt8
  | [] => []
  | [x] => x
  | x :: y :: l => x ++ c :: joinC c (y :: l)
theorem eq_rep {c : UInt8} {u : List UInt8} (h : ∀ x ∈ u, ((x.toNat : Int) == (c.toNat : Int)) = true) : u = List.replicate u.length c := by
  rw [List.eq_replicate_iff]
  exact ⟨rfl, fun x hx => u8_toNat.1 (eq_of_beq (h x hx))⟩
structure ND where
  g : List (List UInt8)
  a : Nat
  sig : Bool
  b : Nat
  c : Nat
  D : List UInt8
  E : List UInt8
  e : Nat
  ps : Bool
  px : Bool
  me : Nat
def ND.core (d : ND) : List UInt8 := if d.sig = true then List.replicate d.b 64 ++ List.replicate d.c 35 else d.D
def ND.frac (d : ND) : List UInt8 := if d.sig = true then [] else d.E ++ List.replicate d.e 35
def ND.ptT (d : ND) : List UInt8 := if d.frac = [] then [] else 46 :: d.frac
def ND.expT (d : ND) : List UInt8 := if d.ps = true then 69 :: ((if d.px = true then [43] else []) ++ List.replicate d.me 48) else []
def ND.body (d : ND) : List UInt8 := joinC 44 d.g ++ d.ptT
def ND.inc (d : ND) : List UInt8 := dropP (· == 48) (d.D ++ d.E)
def lastL (g : List (List UInt8)) (k : Nat) : Int := ((g.getD (g.length - k) []).length : Int)
def ND.pr (d : ND) : Int := if 1 < d.g.length then lastL d.g 1 else 0
def ND.sc (d : ND) : Int := if 1 < d.g.length then (if 2 < d.g.length then lastL d.g 2 else lastL d.g 1) else 0
def ND.base (d : ND) : Num := { z0 with ps := d.ps, px := d.px, me := d.me, pr := d.pr, sc := d.sc }
theorem exp_split {X : List UInt8} (h1 : dropP (· == 48) (Lib.trimPrefix X [43]) = []) : X = (if Lib.hasPrefix X [43] = true then [43] else []) ++ List.replicate (Lib.trimPrefix X [43]).length 48 := by
  have hr := eq_rep (c := 48) (all_of_nil h1)
  rw [← hr, trim_plus]
  cases hp : Lib.hasPrefix X [43] with
  | false => rfl
  | true =>
    rw [has_plus] at hp
    obtain ⟨e1, e2⟩ := of_decide_eq_true hp
    cases X with
    | nil => simp at e1
    | cons x X =>
      have : x = 43 := u8_toNat.1 (by simpa using e2)
      rw [this]; rfl
end Go.Proofs.YtglfkihckkjniaaGreatDoor.Vx
namespace Go.Proofs.YtglfkihckkjniaaGreatDoor.Vx
open Go Go.RowKit
def needs (r : Int) : Bool := signK r != 0 || isMark r || r == 69 || r == 39
def signC (k : Int) : Int := if k = 2 then 45 else if k = 3 then 43 else if k = 4 then 37 else if k = 5 then 8240 else 164
def ItmOK (x : Itm) : Prop := (x.k = 1 ∧ scalar x.r = true) ∨ (2 ≤ x.k ∧ x.k ≤ 6 ∧ x.r = 0)
def ItmsOK (l : List Itm) : Prop := ∀ x ∈ l, ItmOK x
def tokI (x : Itm) : Int × Bool := if x.k = 1 then (x.r, needs x.r) else (signC x.k, false)
def itemsC (l : List Itm) : List Int := prT (l.map tokI) []
def Aside (t : Int × Bool) : Prop := t.2 = true ∨ (isMark t.1 = false ∧ t.1 ≠ 69)
theorem signC_all {k : Int} (h1 : 2 ≤ k) (h2 : k ≤ 6) : signK (signC k) = k ∧ scalar (signC k) = true ∧ isMark (signC k) = false ∧ signC k ≠ 39 ∧ signC k ≠ 69 := by
  have : k = 2 ∨ k = 3 ∨ k = 4 ∨ k = 5 ∨ k = 6 := by omega
  rcases this with e | e | e | e | e <;> (subst e; decide)
theorem tokI_ok {x : Itm} (h : ItmOK x) : (scalar (tokI x).1 = true ∧ ((tokI x).2 = false → (tokI x).1 ≠ 39)) ∧ Aside (tokI x) ∧ ∀ p, Itm.of ⟨(tokI x).1, (tokI x).2, p⟩ = x := by
  obtain ⟨k, r⟩ := x
  rcases h with ⟨h1, h2⟩ | ⟨h1, h2, h3⟩
  · have h1 : k = 1 := h1
    subst h1
    have e : tokI ⟨1, r⟩ = (r, needs r) := rfl
    rw [e]
    cases hn : needs r with
    | true => exact ⟨⟨h2, fun h => by cases h⟩, .inl rfl, fun p => Itm.lit (.inl rfl)⟩
    | false =>
      have hn2 := hn
      unfold needs at hn2
      simp only [Bool.or_eq_false_iff, bne_eq_false_iff_eq, beq_eq_false_iff_ne, ne_eq] at hn2
      obtain ⟨⟨⟨a, b⟩, c⟩, d⟩ := hn2
      exact ⟨⟨h2, fun _ => d⟩, .inr ⟨b, c⟩, fun p => Itm.lit (.inr a)⟩
  · have h1 : 2 ≤ k := h1
    have h2 : k ≤ 6 := h2
    have h3 : r = 0 := h3
    subst h3
    have hk : ¬ k = 1 := by omega
    have e : tokI ⟨k, 0⟩ = (signC k, false) := by unfold tokI; rw [if_neg hk]
    obtain ⟨s1, s2, s3, s4, s5⟩ := signC_all h1 h2
    rw [e]
    refine ⟨⟨s2, fun _ => s4⟩, .inr ⟨s3, s5⟩, fun p => ?_⟩
    unfold Itm.of
    dsimp only
    rw [if_pos ⟨rfl, by rw [s1]; omega⟩, s1]
theorem items_tok {l : List Itm} (h : ItmsOK l) : TokOK (l.map tokI) := by
  intro t ht
  obtain ⟨x, hx, e⟩ := List.mem_map.1 ht
  rw [← e]; exact (tokI_ok (h x hx)).1
theorem items_aside {l : List Itm} (h : ItmsOK l) : ∀ t ∈ l.map tokI, Aside t := by
  intro t ht
  obtain ⟨x, hx, e⟩ := List.mem_map.1 ht
  rw [← e]; exact (tokI_ok (h x hx)).2.1
theorem items_sc {l : List Itm} (h : ItmsOK l) : ScQ (itemsC l) (l.map tokI) := prT_sc _ _ (items_tok h) scalars_nil
def Tok.rq (t : Tok) : Int × Bool := (t.r, t.q)
theorem aside_bad {t : Tok} (h : Aside t.rq) : t.bad = false := by
  unfold Tok.bad
  rcases h with h | h
  · have h : t.q = true := h
    rw [h]; rfl
  · have h : isMark t.r = false := h.1
    rw [h]; simp
theorem items_back : ∀ {T : List Tok} {l : List Itm}, T.map Tok.rq = l.map tokI → ItmsOK l → itemsL T = (l, none) := by
  intro T
  induction T with
  | nil => intro l h _; cases l with
    | nil => rfl
    | cons x l => cases h
  | cons t T ih =>
    intro l h hl
    cases l with
    | nil => cases h
    | cons x l =>
      rw [List.map_cons, List.map_cons] at h
      injection h with h1 h2
      have hx := tokI_ok (hl x List.mem_cons_self)
      have e : Itm.of t = x := by
        have := hx.2.2 t.p
        rw [← h1] at this; exact this
      rw [itemsL_ok (aside_bad (by rw [h1]; exact hx.2.1)), ih h2 fun y hy => hl y (List.mem_cons_of_mem _ hy), e]
theorem itemsR_back {T : List Tok} {l : List Itm} (h : T.map Tok.rq = l.map tokI) (hl : ItmsOK l) (h40 : l.length ≤ 40) : itemsR T = (l, 0, 0) := by
  unfold itemsR
  rw [items_back h hl]
  dsimp only
  rw [if_neg (by omega)]
theorem aside_in {t : Tok} (h : Aside t.rq) {c : List UInt8} (hc : ∀ r, hasR c r = true → isMark r = true ∨ r = 69) : isIn c t.sg = false := by
  show (!t.q && hasR c t.r) = false
  rcases h with h | h
  · have h : t.q = true := h
    rw [h]; rfl
  · cases hr : hasR c t.r with
    | false => simp
    | true =>
      have h1 : isMark t.r = false := h.1
      rcases hc _ hr with e | e
      · rw [h1] at e; cases e
      · exact absurd e h.2
theorem hasR_one (c : UInt8) (r : Int) : hasR [c] r = ((c.toNat : Int) == r) := by unfold hasR; simp
theorem in_body {r : Int} (h : hasR bodyC r = true) : isMark r = true ∧ r ≠ 59 ∧ r ≠ 42 ∧ 0 ≤ r ∧ r < 128 := by
  unfold hasR bodyC at h
  simp only [List.any_cons, List.any_nil, Bool.or_false, Bool.or_eq_true, beq_iff_eq] at h
  have : r = 35 ∨ r = 48 ∨ r = 49 ∨ r = 50 ∨ r = 51 ∨ r = 52 ∨ r = 53 ∨ r = 54 ∨ r = 55 ∨ r = 56 ∨ r = 57 ∨ r = 64 ∨ r = 44 ∨ r = 46 := by
    rcases h with e | e | e | e | e | e | e | e | e | e | e | e | e | e <;> (subst e; decide)
  rcases this with e | e | e | e | e | e | e | e | e | e | e | e | e | e <;> (subst e; decide)
theorem aside_body {t : Tok} (h : Aside t.rq) : isIn bodyC t.sg = false := aside_in h fun r hr => .inl (in_body hr).1
theorem aside_semi {t : Tok} (h : Aside t.rq) : isIn [59] t.sg = false := aside_in h fun r hr => by rw [hasR_one] at hr; have := eq_of_beq hr; exact .inl (by rw [← this]; decide)
theorem aside_E {t : Tok} (h : Aside t.rq) : isIn [69] t.sg = false := aside_in h fun r hr => by rw [hasR_one] at hr; have := eq_of_beq hr; exact .inr this.symm
theorem aside_star {t : Tok} (h : Aside t.rq) : isStar t = false := by
  unfold isStar
  rcases h with h | h
  · have h : t.q = true := h
    rw [h]; rfl
  · cases hr : t.r == 42 with
    | false => simp
    | true =>
      have e : t.r = 42 := eq_of_beq hr
      have h1 : isMark t.r = false := h.1
      rw [e] at h1; exact absurd h1 (by decide)
theorem elemsL_app : ∀ {T : List Tok} (m : List Tok), (∀ t ∈ T, isStar t = false) → elemsL (T ++ m) = (T.map Tok.sg ++ (elemsL m).1, (elemsL m).2) := by
  intro T
  induction T with
  | nil => intro m _; rfl
  | cons t T ih =>
    intro m h
    show elemsL (t :: (T ++ m)) = _
    rw [elemsL_other (h t List.mem_cons_self), ih m fun x hx => h x (List.mem_cons_of_mem _ hx)]
    rfl
theorem findIdx_app {α : Type} {P : α → Bool} {u : List α} (v : List α) (h : ∀ y ∈ u, P y = false) : (u ++ v).findIdx P = u.length + v.findIdx P := by
  induction u with
  | nil => simp
  | cons y u ih =>
    show (y :: (u ++ v)).findIdx P = _
    rw [List.findIdx_cons, h y List.mem_cons_self, cond_false, ih fun z hz => h z (List.mem_cons_of_mem _ hz), List.length_cons]; omega
theorem runN_app {c : List UInt8} {u v : List Iv} (h : ∀ y ∈ u, isIn c y = true) (hv : ∀ y, v.head? = some y → isIn c y = false) : runN (u ++ v) c = u.length := by
  unfold runN
  rw [findIdx_app v fun y hy => by rw [h y hy]; rfl]
  cases v with
  | nil => simp
  | cons y v => rw [List.findIdx_cons, hv y rfl]; simp
theorem runN_none {c : List UInt8} {v : List Iv} (hv : ∀ y, v.head? = some y → isIn c y = false) : runN v c = 0 := by
  have := runN_app (u := []) (c := c) (fun y hy => by cases hy) hv
  exact this
def Plains (l : List Iv) (t : List UInt8) : Prop := ∃ T : List Tok, l = T.map Tok.sg ∧ T.map Tok.rq = t.map fun c => ((c.toNat : Int), false)
theorem Plains.app {l : List Iv} {u v : List UInt8} (h : Plains l (u ++ v)) : ∃ a b, l = a ++ b ∧ Plains a u ∧ Plains b v := by
  obtain ⟨T, h1, h2⟩ := h
  rw [List.map_append] at h2
  obtain ⟨A, B, e, ha, hb⟩ := List.map_eq_append_iff.1 h2
  exact ⟨A.map Tok.sg, B.map Tok.sg, by rw [h1, e, List.map_append], ⟨A, rfl, ha⟩, B, rfl, hb⟩
theorem Plains.len {l : List Iv} {t : List UInt8} (h : Plains l t) : l.length = t.length := by
  obtain ⟨T, h1, h2⟩ := h
  have := congrArg List.length h2
  rw [h1]; simpa using this
theorem Plains.is {l : List Iv} {t : List UInt8} (h : Plains l t) {c : List UInt8} {b : Bool} (ht : ∀ x ∈ t, hasR c (x.toNat : Int) = b) : ∀ y ∈ l, isIn c y = b := by
  obtain ⟨T, h1, h2⟩ := h
  intro y hy
  rw [h1] at hy
  obtain ⟨k, hk, e⟩ := List.mem_map.1 hy
  have : k.rq ∈ T.map Tok.rq := List.mem_map.2 ⟨k, hk, rfl⟩
  rw [h2] at this
  obtain ⟨x, hx, e2⟩ := List.mem_map.1 this
  rw [← e]
  show (!k.q && hasR c k.r) = b
  have q1 : (x.toNat : Int) = k.r := congrArg Prod.fst e2
  have q2 : false = k.q := congrArg Prod.snd e2
  rw [← q1, ← q2, ht x hx]; rfl
theorem Plains.sR {l : List Iv} {t : List UInt8} (h : Plains l t) : l.map Iv.sR = t.map fun c => (c.toNat : Int) := by
  obtain ⟨T, h1, h2⟩ := h
  have := congrArg (List.map Prod.fst) h2
  rw [List.map_map, List.map_map] at this
  rw [h1, List.map_map]; exact this
theorem Plains.head {l : List Iv} {t : List UInt8} (h : Plains l t) {c : List UInt8} {b : Bool} (ht : ∀ x, t.head? = some x → hasR c (x.toNat : Int) = b) : ∀ y, l.head? = some y → isIn c y = b := by
  cases t with
  | nil =>
    have := h.len
    intro y hy
    rw [List.length_eq_zero_iff.1 this] at hy; cases hy
  | cons x t =>
    obtain ⟨a, b', e, ha, hb⟩ := Plains.app (u := [x]) (v := t) h
    intro y hy
    have hl := ha.len
    match a, hl with
    | [z], _ =>
      rw [e] at hy
      have hy : z = y := Option.some.inj hy
      subst hy
      exact ha.is (fun w hw => by rw [List.mem_singleton.1 hw]; exact ht x rfl) z List.mem_cons_self
theorem body_plus : hasR bodyC 43 = false ∧ hasR bodyC 69 = false := by decide
theorem runN_pos {c : List UInt8} {y : Iv} {l : List Iv} (h : isIn c y = true) : 0 < runN (y :: l) c := by
  unfold runN
  rw [List.findIdx_cons, h]
  show 0 < cond false _ _
  rw [cond_false]; omega
theorem drop_len {α : Type} (u v : List α) {n : Nat} (h : n = u.length) : (u ++ v).drop n = v := by rw [h]; exact List.drop_left
theorem Plains.cons {l : List Iv} {c : UInt8} {t : List UInt8} (h : Plains l (c :: t)) : ∃ y m, l = y :: m ∧ Plains [y] [c] ∧ Plains m t := by
  obtain ⟨a, b, e, ha, hb⟩ := Plains.app (u := [c]) (v := t) h
  have hl := ha.len
  match a, hl with
  | [z], _ => exact ⟨z, b, e, ha, hb⟩
theorem Plains.one {y : Iv} {c : UInt8} (h : Plains [y] [c]) (k : List UInt8) {b : Bool} (hk : hasR k (c.toNat : Int) = b) : isIn k y = b :=
  h.is (fun x hx => by rw [List.mem_singleton.1 hx]; exact hk) y List.mem_cons_self
theorem cut_where {pre nums suf : List Iv} {t : List UInt8} (hp : ∀ y ∈ pre, isIn bodyC y = false) (hn : Plains nums t) (ht : (numT t).2 = 0)
    (hs : ∀ y, suf.head? = some y → isIn bodyC y = false ∧ isIn [69] y = false) : cutN (pre ++ (nums ++ suf)) = pre.length ∧ cutE (pre ++ (nums ++ suf)) = pre.length + nums.length := by
  have hsp := num_split t
  have hB := num_body ht
  have hne := num_ne ht
  rw [hsp] at hn
  obtain ⟨nb, nx, e, hb, hx⟩ := hn.app
  have inB := hb.is hB
  have hb0 : nb ≠ [] := fun h0 => by
    have := hb.len; rw [h0] at this
    exact hne (List.length_eq_zero_iff.1 this.symm)
  have hN : cutN (pre ++ (nums ++ suf)) = pre.length := by
    unfold cutN
    rw [findIdx_app _ hp, e]
    cases hnb : nb with
    | nil => exact absurd hnb hb0
    | cons y nb' =>
      show pre.length + (y :: (nb' ++ nx ++ suf)).findIdx _ = _
      rw [List.findIdx_cons, inB y (by rw [hnb]; exact List.mem_cons_self)]; rfl
  refine ⟨hN, ?_⟩
  have hxh : ∀ y, (nx ++ suf).head? = some y → isIn bodyC y = false := by
    intro y hy
    cases hnx : nx with
    | nil => rw [hnx] at hy; exact (hs y hy).1
    | cons z nx' =>
      rw [hnx] at hy
      have hy : z = y := Option.some.inj hy
      subst hy
      refine hx.head (c := bodyC) (b := false) (fun x hx' => ?_) z (by rw [hnx]; rfl)
      cases hS : numS t with
      | false => rw [hS] at hx'; cases hx'
      | true =>
        rw [hS] at hx'
        have : 69 = x := Option.some.inj hx'
        rw [← this]; exact body_plus.2
  have hA : cutA (pre ++ (nums ++ suf)) pre.length = pre.length + nb.length := by
    unfold cutA
    rw [drop_len _ _ rfl, e, List.append_assoc, runN_app inB hxh]
  have dA : (pre ++ (nums ++ suf)).drop (pre.length + nb.length) = nx ++ suf := by
    rw [e, show pre ++ (nb ++ nx ++ suf) = (pre ++ nb) ++ (nx ++ suf) by simp]
    exact drop_len _ _ (by simp)
  unfold cutE
  rw [hN, hA, dA]
  cases hS : numS t with
  | false =>
    rw [hS] at hx
    have hnx : nx = [] := List.length_eq_zero_iff.1 hx.len
    subst hnx
    rw [if_neg, e]
    · simp
    · rw [List.nil_append, runN_none fun y hy => (hs y hy).2]; omega
  | true =>
    rw [hS, if_pos rfl] at hx
    obtain ⟨y, m, e1, hy, hm⟩ := hx.cons
    subst e1
    have y69 : isIn [69] y = true := hy.one [69] (by decide)
    rw [if_pos (show 0 < runN (y :: m ++ suf) [69] from runN_pos y69)]
    obtain ⟨x1, x2⟩ := num_exp ht hS
    have hl := span1_nil x1
    have hz0 : (Lib.trimPrefix (numX t) [43]).length ≠ 0 := fun h0 => x2 (by rw [hl, h0]; rfl)
    rw [exp_split x1] at hm
    generalize (Lib.trimPrefix (numX t) [43]).length = k at hm hz0
    have zs : ∀ x ∈ List.replicate k (48 : UInt8), hasR bodyC (x.toNat : Int) = true := fun x hx => by rw [(List.mem_replicate.1 hx).2]; decide
    have dB : (pre ++ (nums ++ suf)).drop (pre.length + nb.length + 1) = m ++ suf := by
      rw [e, show pre ++ (nb ++ y :: m ++ suf) = (pre ++ nb ++ [y]) ++ (m ++ suf) by simp]
      exact drop_len _ _ (by simp; omega)
    cases hP : Lib.hasPrefix (numX t) [43] with
    | true =>
      rw [hP, if_pos rfl] at hm
      obtain ⟨z, w, e2, hz, hw⟩ := hm.cons (c := 43) (t := List.replicate k 48)
      subst e2
      have z43 : isIn [43] z = true := hz.one [43] (by decide)
      have hcB : cutB (pre ++ (nums ++ suf)) (pre.length + nb.length) = pre.length + nb.length + 1 + 1 := by
        unfold cutB
        rw [dB]
        have : 0 < runN (z :: (w ++ suf)) [43] := runN_pos z43
        show _ + min (runN (z :: (w ++ suf)) [43]) 1 = _
        omega
      have dC : (pre ++ (nums ++ suf)).drop (pre.length + nb.length + 1 + 1) = w ++ suf := by
        rw [e, show pre ++ (nb ++ y :: z :: w ++ suf) = (pre ++ nb ++ [y, z]) ++ (w ++ suf) by simp]
        exact drop_len _ _ (by simp; omega)
      rw [hcB, dC, runN_app (hw.is zs) fun y hy => (hs y hy).1, e]
      simp; omega
    | false =>
      rw [hP] at hm
      have hm : Plains m (List.replicate k 48) := hm
      have hcB : cutB (pre ++ (nums ++ suf)) (pre.length + nb.length) = pre.length + nb.length + 1 := by
        unfold cutB
        rw [dB]
        have : runN (m ++ suf) [43] = 0 := by
          obtain ⟨j, hj⟩ : ∃ j, k = j + 1 := ⟨k - 1, by omega⟩
          rw [hj, List.replicate_succ] at hm
          obtain ⟨z, w, e2, hz, _⟩ := hm.cons
          subst e2
          refine runN_none fun y hy => ?_
          have hy : z = y := Option.some.inj hy
          rw [← hy]; exact hz.one [43] (by decide)
        rw [this]; rfl
      rw [hcB, dB, runN_app (hm.is zs) fun y hy => (hs y hy).1, e]
      simp; omega
theorem encs_bytes {t : List UInt8} (h : Asc t) : encs (t.map fun c => (c.toNat : Int)) = t := by
  induction t with
  | nil => rfl
  | cons c t ih =>
    have hc := h c List.mem_cons_self
    rw [List.map_cons, encs_cons, ih fun x hx => h x (List.mem_cons_of_mem _ hx), enc1 (by omega) (by omega)]
    simp
theorem num_chars {t : List UInt8} (ht : (numT t).2 = 0) : ∀ c ∈ t, hasR bodyC (c.toNat : Int) = true ∨ c = 69 ∨ c = 43 := by
  intro c hc
  have hsp := num_split t
  rw [hsp] at hc
  rcases List.mem_append.1 hc with hc | hc
  · exact .inl (num_body ht c hc)
  · cases hS : numS t with
    | false => rw [hS] at hc; cases hc
    | true =>
      rw [hS, if_pos rfl] at hc
      rcases List.mem_cons.1 hc with e | hc
      · exact .inr (.inl e)
      · rw [exp_split (num_exp ht hS).1] at hc
        rcases List.mem_append.1 hc with e | hc
        · split at e
          · exact .inr (.inr (List.mem_singleton.1 e))
          · cases e
        · rw [(List.mem_replicate.1 hc).2]; exact .inl (by decide)
theorem num_asc {t : List UInt8} (ht : (numT t).2 = 0) : Asc t := by
  intro c hc
  rcases num_chars ht c hc with e | e | e
  · have := (in_body e).2.2.2.2; omega
  · rw [e]; decide
  · rw [e]; decide
theorem cut_build {pre nums suf : List Iv} {t : List UInt8} (b : Int) (hp : ∀ y ∈ pre, isIn bodyC y = false) (hn : Plains nums t) (ht : (numT t).2 = 0)
    (hs : ∀ y, suf.head? = some y → isIn bodyC y = false ∧ isIn [69] y = false) : ∃ a, cutT (pre ++ (nums ++ suf)) b = (⟨b, pre, suf, t, a⟩, true) := by
  obtain ⟨h1, h2⟩ := cut_where hp hn ht hs
  have hl : 0 < nums.length := by
    rw [hn.len]
    have h0 : numB t ≠ [] := num_ne ht
    have h1 := num_split t
    cases hB : numB t with
    | nil => exact absurd hB h0
    | cons x l => rw [h1, hB]; simp
  refine ⟨((pre ++ (nums ++ suf)).getD (cutN (pre ++ (nums ++ suf))) default).at_, ?_⟩
  unfold cutT
  rw [if_pos (by rw [h1]; simp; omega), h1, h2]
  congr 1
  congr 1
  · exact List.take_left
  · rw [← List.append_assoc]; exact drop_len _ _ (by simp)
  · rw [← List.append_assoc, List.take_append_of_le_length (by simp), List.take_of_length_le (by simp), drop_len _ _ rfl, hn.sR, encs_bytes (num_asc ht)]
end Go.Proofs.YtglfkihckkjniaaGreatDoor.Vx
namespace Go.Proofs.YtglfkihckkjniaaGreatDoor.Vx
open Go Go.RowKit
def padAt (k pa : Int) (y : Iv) : List Iv := if pa = k then [y] else []
theorem spotsN_sg (N : Nat) (a b : Int) (l : List Iv) : ∀ (T : List Tok) (n : Nat), spotsN N a b n (T.map Tok.sg ++ l) = spotsN N a b (n + T.length) l := by
  intro T
  induction T with
  | nil => intro n; rfl
  | cons t T ih =>
    intro n
    show (if Iv.isP t.sg = true then _ else []) ++ spotsN N a b (n + 1) (T.map Tok.sg ++ l) = _
    rw [if_neg (show ¬ Iv.isP t.sg = true from Bool.false_ne_true), List.nil_append, ih, List.length_cons]
    congr 1; omega
theorem spots_side (a b : Int) {k1 k2 pa r p : Int} {T : List Tok} (hk : k1 ≠ k2) (h2 : pa = k2 → T ≠ []) :
    spotsN (padAt k1 pa (.padding r p) ++ T.map Tok.sg ++ padAt k2 pa (.padding r p)).length a b 0 (padAt k1 pa (.padding r p) ++ T.map Tok.sg ++ padAt k2 pa (.padding r p)) = (if pa = k1 then [⟨r, p, a⟩] else []) ++ (if pa = k2 then [⟨r, p, b⟩] else []) := by
  unfold padAt
  by_cases e1 : pa = k1
  · have e2 : ¬ pa = k2 := fun e => hk (e1.symm.trans e)
    rw [if_pos e1, if_neg e2, if_pos e1, if_neg e2, List.append_nil]
    show (if Iv.isP (.padding r p) = true then _ else []) ++ spotsN _ a b 1 (T.map Tok.sg) = _
    have := spotsN_sg ([Iv.padding r p] ++ T.map Tok.sg).length a b [] T 1
    rw [List.append_nil] at this
    rw [this]; rfl
  · rw [if_neg e1, if_neg e1, List.nil_append, List.nil_append]
    by_cases e2 : pa = k2
    · rw [if_pos e2, if_pos e2, spotsN_sg]
      have hT := h2 e2
      have hl : T.length ≠ 0 := fun e => hT (List.length_eq_zero_iff.1 e)
      show [_] ++ _ = _
      have : (T.map Tok.sg ++ [Iv.padding r p]).length = T.length + 1 := by simp
      rw [this, if_neg (by omega), if_pos (by omega)]; rfl
    · rw [if_neg e2, if_neg e2]
      have := spotsN_sg (T.map Tok.sg ++ []).length a b [] T 0
      rw [this]; rfl
theorem plainT_app (l m : List Iv) : plainT (l ++ m) = plainT l ++ plainT m := by unfold plainT; rw [List.filter_append, List.map_append]
theorem plainT_sg (T : List Tok) : plainT (T.map Tok.sg) = T := by
  induction T with
  | nil => rfl
  | cons t T ih => show t :: plainT (T.map Tok.sg) = _; rw [ih]
theorem plainT_pad (k pa r p : Int) : plainT (padAt k pa (.padding r p)) = [] := by unfold padAt; split <;> rfl
theorem plain_side (k1 k2 pa r p : Int) (T : List Tok) : plainT (padAt k1 pa (.padding r p) ++ T.map Tok.sg ++ padAt k2 pa (.padding r p)) = T := by
  rw [plainT_app, plainT_app, plainT_sg, plainT_pad, plainT_pad, List.append_nil]; rfl
theorem side_is {k1 k2 pa r p : Int} {T : List Tok} {c : List UInt8} (h : ∀ t ∈ T, isIn c t.sg = false) : ∀ y ∈ padAt k1 pa (.padding r p) ++ T.map Tok.sg ++ padAt k2 pa (.padding r p), isIn c y = false := by
  intro y hy
  have hpad : ∀ k, y ∈ padAt k pa (.padding r p) → isIn c y = false := by
    intro k hk
    unfold padAt at hk
    split at hk
    · rw [List.mem_singleton.1 hk]; rfl
    · cases hk
  rcases List.mem_append.1 hy with hy | hy
  · rcases List.mem_append.1 hy with hy | hy
    · exact hpad _ hy
    · obtain ⟨t, ht, e⟩ := List.mem_map.1 hy
      rw [← e]; exact h t ht
  · exact hpad _ hy
def halfE (T1 : List Tok) (nums : List Iv) (T2 : List Tok) (pa r p : Int) : List Iv :=
  (padAt 1 pa (.padding r p) ++ T1.map Tok.sg ++ padAt 2 pa (.padding r p)) ++ (nums ++ (padAt 3 pa (.padding r p) ++ T2.map Tok.sg ++ padAt 4 pa (.padding r p)))
def spotOf (pa r p : Int) : Spot := if pa = 0 then ⟨0, 0, 0⟩ else ⟨r, p, pa⟩
def widthOf (pa : Int) (I1 I2 : List Itm) (t : List UInt8) : Int := if pa ≠ 0 then (I1.length : Int) + (I2.length : Int) + (t.length : Int) else 0
structure HalfOK (T1 : List Tok) (nums : List Iv) (T2 : List Tok) (pa : Int) (I1 I2 : List Itm) (t : List UInt8) (first : Bool) : Prop where
  m1 : T1.map Tok.rq = I1.map tokI
  m2 : T2.map Tok.rq = I2.map tokI
  o1 : ItmsOK I1
  o2 : ItmsOK I2
  l1 : I1.length ≤ 40
  l2 : I2.length ≤ 40
  hn : Plains nums t
  ht : (numT t).2 = 0
  pa0 : 0 ≤ pa ∧ pa ≤ 4
  pa2 : pa = 2 → I1 ≠ []
  pa4 : pa = 4 → I2 ≠ []
  pf : pa ≠ 0 → first = true
theorem toks_ne {T : List Tok} {I : List Itm} (h : T.map Tok.rq = I.map tokI) (hI : I ≠ []) : T ≠ [] := by
  intro e; subst e
  cases I with
  | nil => exact hI rfl
  | cons x I => cases h
theorem toks_aside {T : List Tok} {I : List Itm} (h : T.map Tok.rq = I.map tokI) (hI : ItmsOK I) : ∀ t ∈ T, Aside t.rq := by
  intro t ht
  have : t.rq ∈ T.map Tok.rq := List.mem_map.2 ⟨t, ht, rfl⟩
  rw [h] at this
  exact items_aside hI _ this
theorem read_build {T1 T2 : List Tok} {nums : List Iv} {pa r p : Int} {I1 I2 : List Itm} {t : List UInt8} {first : Bool} (h : HalfOK T1 nums T2 pa I1 I2 t first) (b : Int) :
    readT (halfE T1 nums T2 pa r p) b first = (⟨I1, I2, (numT t).1, widthOf pa I1 I2 t, spotOf pa r p⟩, 0, 0) := by
  have a1 := toks_aside h.m1 h.o1
  have a2 := toks_aside h.m2 h.o2
  obtain ⟨a, hc⟩ := cut_build (pre := padAt 1 pa (.padding r p) ++ T1.map Tok.sg ++ padAt 2 pa (.padding r p)) (suf := padAt 3 pa (.padding r p) ++ T2.map Tok.sg ++ padAt 4 pa (.padding r p)) b
    (side_is fun t ht => aside_body (a1 t ht)) h.hn h.ht (fun y hy => ⟨side_is (fun t ht => aside_body (a2 t ht)) y (List.mem_of_head? hy), side_is (fun t ht => aside_E (a2 t ht)) y (List.mem_of_head? hy)⟩)
  have hs : paddedT (spotsT (padAt 1 pa (.padding r p) ++ T1.map Tok.sg ++ padAt 2 pa (.padding r p)) (padAt 3 pa (.padding r p) ++ T2.map Tok.sg ++ padAt 4 pa (.padding r p))) first = (spotOf pa r p, 0, 0) := by
    unfold spotsT spotOf
    rw [spots_side 1 2 (by decide) (fun e => toks_ne h.m1 (h.pa2 e)), spots_side 3 4 (by decide) (fun e => toks_ne h.m2 (h.pa4 e))]
    have hpa := h.pa0
    by_cases e0 : pa = 0
    · rw [if_pos e0, if_neg (by omega), if_neg (by omega), if_neg (by omega), if_neg (by omega)]; rfl
    · have hf := h.pf e0
      rw [if_neg e0]
      have key : ∀ w : Int, w ≠ 0 → paddedT [⟨r, p, w⟩] first = (⟨r, p, w⟩, 0, 0) := fun w hw => by
        unfold paddedT
        dsimp only
        rw [if_neg]
        rintro (e | e)
        · exact hw e
        · rw [hf] at e; cases e
      have : pa = 1 ∨ pa = 2 ∨ pa = 3 ∨ pa = 4 := by omega
      rcases this with e | e | e | e <;> subst e <;> exact key _ (by decide)
  unfold readT halfE
  rw [hc]
  dsimp only
  rw [if_neg (by decide), hs, plain_side, plain_side, itemsR_back h.m1 h.o1 h.l1, itemsR_back h.m2 h.o2 h.l2, h.ht]
  dsimp only
  rw [if_neg (show ¬ (0 : Int) ≠ 0 from fun e => e rfl), if_neg (show ¬ (0 : Int) ≠ 0 from fun e => e rfl), if_neg (show ¬ (0 : Int) ≠ 0 from fun e => e rfl), if_neg (show ¬ (0 : Int) ≠ 0 from fun e => e rfl)]
  congr 1
  congr 1
  unfold widthOf spotOf
  by_cases e0 : pa = 0
  · rw [if_pos e0, if_neg (fun e => e rfl), if_neg (fun e => e e0)]
  · rw [if_neg e0, if_pos e0]
theorem half_semi {T1 T2 : List Tok} {nums : List Iv} {pa r p : Int} {I1 I2 : List Itm} {t : List UInt8} {first : Bool} (h : HalfOK T1 nums T2 pa I1 I2 t first) : ∀ y ∈ halfE T1 nums T2 pa r p, isIn [59] y = false := by
  have a1 := toks_aside h.m1 h.o1
  have a2 := toks_aside h.m2 h.o2
  intro y hy
  rcases List.mem_append.1 hy with hy | hy
  · exact side_is (fun t ht => aside_semi (a1 t ht)) y hy
  · rcases List.mem_append.1 hy with hy | hy
    · refine h.hn.is (c := [59]) (b := false) (fun x hx => ?_) y hy
      rcases num_chars h.ht x hx with e | e | e
      · rw [hasR_one]
        have := (in_body e).2.1
        simpa using fun e => this (by rw [← e])
      · rw [e]; decide
      · rw [e]; decide
    · exact side_is (fun t ht => aside_semi (a2 t ht)) y hy
structure PD where
  I1 : List Itm
  I2 : List Itm
  t : List UInt8
  pa : Int
  pd : Int
  hn : Bool
  I3 : List Itm
  I4 : List Itm
  u : List UInt8
def PD.pat (d : PD) : Pat := ⟨d.I1, d.I2, d.hn, if d.hn = true then d.I3 else ⟨2, 0⟩ :: d.I1, if d.hn = true then d.I4 else d.I2, (numT d.t).1, d.pa, if d.pa = 0 then 0 else d.pd, widthOf d.pa d.I1 d.I2 d.t⟩
theorem made_read {pa r p : Int} {I1 I2 : List Itm} {t : List UInt8} : madeT (PT.pa ⟨I1, I2, (numT t).1, widthOf pa I1 I2 t, spotOf pa r p⟩) = ⟨I1, I2, false, ⟨2, 0⟩ :: I1, I2, (numT t).1, pa, if pa = 0 then 0 else r, widthOf pa I1 I2 t⟩ := by
  unfold madeT PT.pa
  dsimp only
  congr 1
  · unfold spotOf; split <;> simp_all
  · unfold spotOf; split <;> rfl
theorem comp_one {T1 T2 : List Tok} {nums : List Iv} {pa r p : Int} {I1 I2 : List Itm} {t : List UInt8} (h : HalfOK T1 nums T2 pa I1 I2 t true) :
    compE (halfE T1 nums T2 pa r p) = if bothH (PD.pat ⟨I1, I2, t, pa, r, false, [], [], []⟩) = true then (p0, 6, 0) else (PD.pat ⟨I1, I2, t, pa, r, false, [], [], []⟩, 0, 0) := by
  have hs := half_semi (r := r) (p := p) h
  have ha : aheadN (halfE T1 nums T2 pa r p) = (halfE T1 nums T2 pa r p).length := by
    have := findIdx_app (P := isIn [59]) [] hs
    rw [List.append_nil] at this
    exact this
  have hb : behindL (halfE T1 nums T2 pa r p) = [] := by
    unfold behindL; rw [ha]; exact List.drop_of_length_le (by omega)
  unfold compE
  rw [hb, ha, List.take_length, read_build h, made_read, if_neg (show ¬ aheadN [] < ([] : List Iv).length by decide), if_neg (show ¬ (0 : Int) ≠ 0 from fun e => e rfl), if_neg (Nat.lt_irrefl _)]
  rfl
theorem comp_two {T1 T2 T3 T4 : List Tok} {nums nums2 : List Iv} {pa r p : Int} {I1 I2 I3 I4 : List Itm} {t u : List UInt8} {y : Iv} (h : HalfOK T1 nums T2 pa I1 I2 t true) (k : HalfOK T3 nums2 T4 0 I3 I4 u false) (hy : isIn [59] y = true) (q z : Int) :
    compE (halfE T1 nums T2 pa r p ++ y :: halfE T3 nums2 T4 0 q z) = if bothH (PD.pat ⟨I1, I2, t, pa, r, true, I3, I4, u⟩) = true then (p0, 6, 0) else (PD.pat ⟨I1, I2, t, pa, r, true, I3, I4, u⟩, 0, 0) := by
  have hs := half_semi (r := r) (p := p) h
  have ks := half_semi (r := q) (p := z) k
  have ha : aheadN (halfE T1 nums T2 pa r p ++ y :: halfE T3 nums2 T4 0 q z) = (halfE T1 nums T2 pa r p).length := by
    unfold aheadN
    rw [findIdx_app _ hs, List.findIdx_cons, hy]; rfl
  have hb : behindL (halfE T1 nums T2 pa r p ++ y :: halfE T3 nums2 T4 0 q z) = halfE T3 nums2 T4 0 q z := by
    unfold behindL
    rw [ha, show halfE T1 nums T2 pa r p ++ y :: halfE T3 nums2 T4 0 q z = (halfE T1 nums T2 pa r p ++ [y]) ++ halfE T3 nums2 T4 0 q z by simp]
    exact drop_len _ _ (by simp)
  have hk : aheadN (halfE T3 nums2 T4 0 q z) = (halfE T3 nums2 T4 0 q z).length := by
    have := findIdx_app (P := isIn [59]) [] ks
    rw [List.append_nil] at this
    exact this
  unfold compE
  rw [hb, hk, ha, List.take_left, read_build h, read_build k, made_read, if_neg (Nat.lt_irrefl _), if_neg (show ¬ (0 : Int) ≠ 0 from fun e => e rfl), if_pos (by simp), if_neg (show ¬ (0 : Int) ≠ 0 from fun e => e rfl)]
  rfl
end Go.Proofs.YtglfkihckkjniaaGreatDoor.Vx
namespace Go.Proofs.YtglfkihckkjniaaGreatDoor.Vx
open Go Go.RowKit
def cods (t : List UInt8) : List Int := t.map fun c => (c.toNat : Int)
def codQ (t : List UInt8) : List (Int × Bool) := t.map fun c => ((c.toNat : Int), false)
theorem cods_sc : ∀ {t : List UInt8}, (∀ c ∈ t, scalar (c.toNat : Int) = true ∧ (c.toNat : Int) ≠ 39) → Sc (cods t) (codQ t) := by
  intro t
  induction t with
  | nil => intro _; exact Sc.nil
  | cons c t ih =>
    intro h
    have h1 := h c List.mem_cons_self
    exact Sc.then (Sc.one h1.1 h1.2) (ih fun x hx => h x (List.mem_cons_of_mem _ hx))
theorem asc_scalar (n : Nat) (h : n < 128) : scalar (n : Int) = true := by rw [scalar_iff]; omega
theorem num_scal {t : List UInt8} (ht : (numT t).2 = 0) : ∀ c ∈ t, scalar (c.toNat : Int) = true ∧ (c.toNat : Int) ≠ 39 := by
  intro c hc
  refine ⟨asc_scalar _ (num_asc ht c hc), fun e => ?_⟩
  rcases num_chars ht c hc with h | h | h
  · rw [e] at h; exact absurd h (by decide)
  · rw [h] at e; exact absurd e (by decide)
  · rw [h] at e; exact absurd e (by decide)
theorem num_sc {t : List UInt8} (ht : (numT t).2 = 0) : Sc (cods t) (codQ t) := cods_sc (num_scal ht)
theorem num_nil {t : List UInt8} (ht : (numT t).2 = 0) : t ≠ [] := by
  intro e; subst e; exact num_ne ht rfl
theorem cods_head {t : List UInt8} (ht : (numT t).2 = 0) (m : List Int) : (cods t ++ m).head? ≠ some 39 := by
  cases t with
  | nil => exact absurd rfl (num_nil ht)
  | cons c t => exact fun e => (num_scal ht c List.mem_cons_self).2 (Option.some.inj e)
def padC (k pa pd : Int) : List Int := if pa = k then 42 :: (if pd = 39 then [39, 39] else [pd]) else []
def padQ (k pa pd : Int) : List (Int × Bool) := if pa = k then [(42, false), (pd, decide (pd = 39))] else []
theorem padC_sc (k : Int) {pa pd : Int} (h : pa ≠ 0 → scalar pd = true) (hk : k ≠ 0) : Sc (padC k pa pd) (padQ k pa pd) := by
  unfold padC padQ
  by_cases e : pa = k
  · rw [if_pos e, if_pos e]
    have hs := h (by omega)
    have k : Sc (if pd = 39 then [39, 39] else [pd]) [(pd, decide (pd = 39))] := by
      by_cases e2 : pd = 39
      · rw [if_pos e2, e2]; exact Sc.two
      · rw [if_neg e2, decide_eq_false e2]; exact Sc.one hs e2
    exact Sc.then (u := [42]) (t1 := [(42, false)]) (Sc.one (by decide) (by decide)) k
  · rw [if_neg e, if_neg e]; exact Sc.nil
theorem padC_head {k pa pd : Int} {m : List Int} (h : m.head? ≠ some 39) : (padC k pa pd ++ m).head? ≠ some 39 := by
  unfold padC
  split
  · exact fun e => absurd (Option.some.inj e) (by decide)
  · exact h
def PD.tailC (d : PD) : List Int := if d.hn = true then 59 :: (itemsC d.I3 ++ (cods d.u ++ itemsC d.I4)) else []
def PD.tailQ (d : PD) : List (Int × Bool) := if d.hn = true then (59, false) :: (d.I3.map tokI ++ (codQ d.u ++ d.I4.map tokI)) else []
def PD.codes (d : PD) : List Int := padC 1 d.pa d.pd ++ (itemsC d.I1 ++ (padC 2 d.pa d.pd ++ (cods d.t ++ (padC 3 d.pa d.pd ++ (itemsC d.I2 ++ (padC 4 d.pa d.pd ++ d.tailC))))))
def PD.toks (d : PD) : List (Int × Bool) := padQ 1 d.pa d.pd ++ (d.I1.map tokI ++ (padQ 2 d.pa d.pd ++ (codQ d.t ++ (padQ 3 d.pa d.pd ++ (d.I2.map tokI ++ (padQ 4 d.pa d.pd ++ d.tailQ))))))
structure PDok (d : PD) : Prop where
  o1 : ItmsOK d.I1
  o2 : ItmsOK d.I2
  l1 : d.I1.length ≤ 40
  l2 : d.I2.length ≤ 40
  ht : (numT d.t).2 = 0
  pa0 : 0 ≤ d.pa ∧ d.pa ≤ 4
  pa2 : d.pa = 2 → d.I1 ≠ []
  pa4 : d.pa = 4 → d.I2 ≠ []
  pds : d.pa ≠ 0 → scalar d.pd = true
  h3 : d.hn = true → ItmsOK d.I3 ∧ ItmsOK d.I4 ∧ d.I3.length ≤ 40 ∧ d.I4.length ≤ 40 ∧ (numT d.u).2 = 0
theorem PDok.sc {d : PD} (h : PDok d) : ScQ d.codes d.toks := by
  have tl : ScQ d.tailC d.tailQ ∧ d.tailC.head? ≠ some 39 := by
    unfold PD.tailC PD.tailQ
    cases hn : d.hn with
    | false => exact ⟨Sc.nil.q, fun e => by cases e⟩
    | true =>
      obtain ⟨o3, o4, _, _, hu⟩ := h.h3 hn
      rw [if_pos rfl, if_pos rfl]
      refine ⟨Sc.thenQ (u := [59]) (t1 := [(59, false)]) (Sc.one (by decide) (by decide)) (ScQ.thenQ (items_sc o3) (Sc.thenQ (num_sc hu) (items_sc o4)) (cods_head hu _)), fun e => absurd (Option.some.inj e) (by decide)⟩
  unfold PD.codes PD.toks
  refine Sc.thenQ (padC_sc 1 h.pds (by decide)) (ScQ.thenQ (items_sc h.o1) (Sc.thenQ (padC_sc 2 h.pds (by decide)) (Sc.thenQ (num_sc h.ht) (Sc.thenQ (padC_sc 3 h.pds (by decide)) (ScQ.thenQ (items_sc h.o2) (Sc.thenQ (padC_sc 4 h.pds (by decide)) tl.1) (padC_head tl.2))))) (padC_head (cods_head h.ht _)))
theorem elems_pad {k pa pd : Int} {T : List Tok} (h : T.map Tok.rq = padQ k pa pd) : ∃ p, ∀ m, elemsL (T ++ m) = (padAt k pa (.padding pd p) ++ (elemsL m).1, (elemsL m).2) := by
  unfold padQ at h
  unfold padAt
  split at h
  · rename_i e
    match T, h with
    | [], h => cases h
    | [a], h => injection h with _ h; cases h
    | a :: b :: c :: l, h => injection h with _ h; injection h with _ h; cases h
    | [a, b], h =>
      injection h with h1 h2
      injection h2 with h2 _
      refine ⟨a.p, fun m => ?_⟩
      have e1 : a.r = 42 := congrArg Prod.fst h1
      have e2 : a.q = false := congrArg Prod.snd h1
      have e3 : b.r = pd := congrArg Prod.fst h2
      show elemsL (a :: b :: m) = _
      rw [elemsL_star (by unfold isStar; rw [e1, e2]; rfl), if_pos e, e3]; rfl
  · rename_i e
    have : T = [] := List.map_eq_nil_iff.1 h
    subst this
    exact ⟨0, fun m => by rw [if_neg e]; rfl⟩
theorem padAt_eq {k pa pd p q : Int} (h : pa = k → p = q) : padAt k pa (.padding pd p) = padAt k pa (.padding pd q) := by
  unfold padAt
  split
  · rename_i e; rw [h e]
  · rfl
theorem plains_of {T : List Tok} {t : List UInt8} (h : T.map Tok.rq = codQ t) : Plains (T.map Tok.sg) t := ⟨T, rfl, h⟩
theorem cod_star {T : List Tok} {t : List UInt8} (h : T.map Tok.rq = codQ t) (ht : (numT t).2 = 0) : ∀ x ∈ T, isStar x = false := by
  intro x hx
  have : x.rq ∈ T.map Tok.rq := List.mem_map.2 ⟨x, hx, rfl⟩
  rw [h] at this
  obtain ⟨c, hc, e⟩ := List.mem_map.1 this
  have e1 : (c.toNat : Int) = x.r := congrArg Prod.fst e
  unfold isStar
  have : x.r ≠ 42 := by
    rw [← e1]
    rcases num_chars ht c hc with h | h | h
    · exact (in_body h).2.2.1
    · rw [h]; decide
    · rw [h]; decide
  simp [this]
theorem star_aside {T : List Tok} {I : List Itm} (h : T.map Tok.rq = I.map tokI) (hI : ItmsOK I) : ∀ t ∈ T, isStar t = false := fun t ht => aside_star (toks_aside h hI t ht)
theorem PDok.elems {d : PD} (h : PDok d) {T : List Tok} (hT : T.map Tok.rq = d.toks) : ∃ (T1 Tn T2 : List Tok) (p : Int), HalfOK T1 (Tn.map Tok.sg) T2 d.pa d.I1 d.I2 d.t true ∧
    ((d.hn = false ∧ elemsL T = (halfE T1 (Tn.map Tok.sg) T2 d.pa d.pd p, none)) ∨
     (d.hn = true ∧ ∃ (y : Iv) (T3 Tm T4 : List Tok), HalfOK T3 (Tm.map Tok.sg) T4 0 d.I3 d.I4 d.u false ∧ isIn [59] y = true ∧ elemsL T = (halfE T1 (Tn.map Tok.sg) T2 d.pa d.pd p ++ y :: halfE T3 (Tm.map Tok.sg) T4 0 0 0, none))) := by
  unfold PD.toks at hT
  obtain ⟨A1, B1, rfl, hA1, hB1⟩ := List.map_eq_append_iff.1 hT
  obtain ⟨T1, B2, rfl, hT1, hB2⟩ := List.map_eq_append_iff.1 hB1
  obtain ⟨A2, B3, rfl, hA2, hB3⟩ := List.map_eq_append_iff.1 hB2
  obtain ⟨Tn, B4, rfl, hTn, hB4⟩ := List.map_eq_append_iff.1 hB3
  obtain ⟨A3, B5, rfl, hA3, hB5⟩ := List.map_eq_append_iff.1 hB4
  obtain ⟨T2, B6, rfl, hT2, hB6⟩ := List.map_eq_append_iff.1 hB5
  obtain ⟨A4, B7, rfl, hA4, hB7⟩ := List.map_eq_append_iff.1 hB6
  obtain ⟨p1, q1⟩ := elems_pad hA1
  obtain ⟨p2, q2⟩ := elems_pad hA2
  obtain ⟨p3, q3⟩ := elems_pad hA3
  obtain ⟨p4, q4⟩ := elems_pad hA4
  refine ⟨T1, Tn, T2, if d.pa = 1 then p1 else if d.pa = 2 then p2 else if d.pa = 3 then p3 else p4, ⟨hT1, hT2, h.o1, h.o2, h.l1, h.l2, plains_of hTn, h.ht, h.pa0, h.pa2, h.pa4, fun _ => rfl⟩, ?_⟩
  have key : ∀ m, elemsL (A1 ++ (T1 ++ (A2 ++ (Tn ++ (A3 ++ (T2 ++ (A4 ++ m))))))) = (halfE T1 (Tn.map Tok.sg) T2 d.pa d.pd (if d.pa = 1 then p1 else if d.pa = 2 then p2 else if d.pa = 3 then p3 else p4) ++ (elemsL m).1, (elemsL m).2) := by
    intro m
    rw [q1, elemsL_app _ (star_aside hT1 h.o1), q2, elemsL_app _ (cod_star hTn h.ht), q3, elemsL_app _ (star_aside hT2 h.o2), q4]
    unfold halfE
    rw [padAt_eq (p := p1) (q := if d.pa = 1 then p1 else if d.pa = 2 then p2 else if d.pa = 3 then p3 else p4) (fun e => by rw [if_pos e]),
      padAt_eq (p := p2) (q := if d.pa = 1 then p1 else if d.pa = 2 then p2 else if d.pa = 3 then p3 else p4) (fun e => by rw [if_neg (by omega), if_pos e]),
      padAt_eq (p := p3) (q := if d.pa = 1 then p1 else if d.pa = 2 then p2 else if d.pa = 3 then p3 else p4) (fun e => by rw [if_neg (by omega), if_neg (by omega), if_pos e]),
      padAt_eq (p := p4) (q := if d.pa = 1 then p1 else if d.pa = 2 then p2 else if d.pa = 3 then p3 else p4) (fun e => by rw [if_neg (by omega), if_neg (by omega), if_neg (by omega)])]
    simp only [List.append_assoc]
  unfold PD.tailQ at hB7
  cases hn : d.hn with
  | false =>
    rw [hn] at hB7
    have : B7 = [] := List.map_eq_nil_iff.1 hB7
    subst this
    refine .inl ⟨rfl, ?_⟩
    rw [key, show elemsL [] = ([], none) from rfl, List.append_nil]
  | true =>
    rw [hn, if_pos rfl] at hB7
    obtain ⟨o3, o4, l3, l4, hu⟩ := h.h3 hn
    match B7, hB7 with
    | s :: B8, hB7 =>
      injection hB7 with hs hB8
      obtain ⟨T3, B9, rfl, hT3, hB9⟩ := List.map_eq_append_iff.1 hB8
      obtain ⟨Tm, T4, rfl, hTm, hT4⟩ := List.map_eq_append_iff.1 hB9
      have e1 : s.r = 59 := congrArg Prod.fst hs
      have e2 : s.q = false := congrArg Prod.snd hs
      refine .inr ⟨rfl, s.sg, T3, Tm, T4, ⟨hT3, hT4, o3, o4, l3, l4, plains_of hTm, hu, by decide, fun e => absurd e (by decide), fun e => absurd e (by decide), fun e => absurd rfl e⟩, ?_, ?_⟩
      · show (!s.q && hasR [59] s.r) = true
        rw [e1, e2]; rfl
      · rw [key, elemsL_other (by unfold isStar; rw [e1, e2]; rfl), elemsL_app _ (star_aside hT3 o3), elemsL_app _ (cod_star hTm hu)]
        have h4 := elemsL_app [] (star_aside hT4 o4)
        rw [List.append_nil] at h4
        rw [h4]
        unfold halfE padAt
        simp [elemsL]
theorem comp_build {d : PD} (h : PDok d) (few : d.toks.length ≤ 400) : compileT (encs d.codes) = if bothH d.pat = true then (p0, 6, 0) else (d.pat, 0, 0) := by
  obtain ⟨T, hT, hs⟩ := scanT_of h.sc
  rw [if_neg (by omega)] at hs
  obtain ⟨T1, Tn, T2, p, hh, hk⟩ := h.elems (T := T) hT
  have he : ∀ l, elemsL T = (l, none) → compileT (encs d.codes) = compE l := fun l hl => by
    unfold compileT
    have e : elemsR T = (l, 0, 0) := by unfold elemsR; rw [hl]
    rw [hs]
    dsimp only
    rw [if_neg (fun e => e rfl), e]
    dsimp only
    rw [if_neg (fun e => e rfl)]
  rcases hk with ⟨hn, hk⟩ | ⟨hn, y, T3, Tm, T4, k, hy, hk⟩
  · rw [he _ hk, comp_one hh]
    have : d.pat = PD.pat ⟨d.I1, d.I2, d.t, d.pa, d.pd, false, [], [], []⟩ := by unfold PD.pat; rw [hn]; rfl
    rw [this]
  · rw [he _ hk, comp_two hh k hy]
    have : d.pat = PD.pat ⟨d.I1, d.I2, d.t, d.pa, d.pd, true, d.I3, d.I4, d.u⟩ := by unfold PD.pat; rw [hn]
    rw [this]
end Go.Proofs.YtglfkihckkjniaaGreatDoor.Vx
namespace Go.Proofs.YtglfkihckkjniaaGreatDoor.Vx
open Go Go.RowKit
instance (x : Itm) : Decidable (ItmOK x) := by unfold ItmOK; infer_instance
instance (l : List Itm) : Decidable (ItmsOK l) := by unfold ItmsOK; infer_instance
def MayN (l : List Itm) : Type := {i : Nat // i ≤ l.length ∧ ItmsOK (l.take i)}
theorem MayN.next {l : List Itm} (x : MayN l) (h : x.1 < l.length) (hk : ItmOK (l.getD x.1 default)) : ItmsOK (l.take (x.1 + 1)) := by
  rw [take_next l default h]
  intro y hy
  rcases List.mem_append.1 hy with hy | hy
  · exact x.2.2 y hy
  · rw [List.mem_singleton.1 hy]; exact hk
end Go.Proofs.YtglfkihckkjniaaGreatDoor.Vx
namespace Go.Proofs.YtglfkihckkjniaaGreatDoor.Vx
open Go Go.RowKit
theorem encs_cods {t : List UInt8} (ht : (numT t).2 = 0) : encs (cods t) = t := encs_bytes (num_asc ht)
end Go.Proofs.YtglfkihckkjniaaGreatDoor.Vx
namespace Go.Proofs.YtglfkihckkjniaaGreatDoor.Vx
open Go Go.RowKit
theorem elemsL_cat : ∀ (n : Nat) (T : List Tok), T.length ≤ n → (elemsL T).2 = none → ∀ m, elemsL (T ++ m) = ((elemsL T).1 ++ (elemsL m).1, (elemsL m).2) := by
  intro n
  induction n using Nat.strongRecOn with
  | _ n ih =>
    intro T hn hT m
    match T with
    | [] => rfl
    | t :: T =>
      cases hs : isStar t with
      | false =>
        rw [elemsL_other hs] at hT
        show elemsL (t :: (T ++ m)) = _
        rw [elemsL_other hs, elemsL_other hs, ih T.length (by simp at hn; omega) T (Nat.le_refl _) hT m]
        rfl
      | true =>
        match T with
        | [] => rw [elemsL_end hs] at hT; cases hT
        | x :: T =>
          rw [elemsL_star hs] at hT
          show elemsL (t :: x :: (T ++ m)) = _
          rw [elemsL_star hs, elemsL_star hs, ih T.length (by simp at hn; omega) T (Nat.le_refl _) hT m]
          rfl
def padPD (pa r : Int) (s : List UInt8) : PD := ⟨[⟨1, 97⟩], [⟨1, 98⟩], s, pa, r, false, [], [], []⟩
theorem pads_ok {pa r : Int} {s : List UInt8} (hp : 1 ≤ pa ∧ pa ≤ 4) (hr : scalar r = true) (hs : (numT s).2 = 0) : PDok (padPD pa r s) :=
  ⟨by unfold ItmsOK padPD; simp [ItmOK]; decide, by unfold ItmsOK padPD; simp [ItmOK]; decide, (show 1 ≤ 40 by decide), (show 1 ≤ 40 by decide), hs, ⟨by show 0 ≤ pa; omega, hp.2⟩, fun _ => List.cons_ne_nil _ _, fun _ => List.cons_ne_nil _ _, fun _ => hr, fun e => by cases e⟩
theorem padQ_len (k pa pd : Int) : (padQ k pa pd).length ≤ 2 := by unfold padQ; split <;> simp
theorem pads_few {pa r : Int} {s : List UInt8} (hn : s.length ≤ 100) : (padPD pa r s).toks.length ≤ 110 := by
  have h1 := padQ_len 1 pa r
  have h2 := padQ_len 2 pa r
  have h3 := padQ_len 3 pa r
  have h4 := padQ_len 4 pa r
  unfold PD.toks PD.tailQ padPD codQ
  simp
  omega
theorem pads_both (pa r : Int) (s : List UInt8) : bothH (padPD pa r s).pat = false := rfl
theorem pads_one {pa r : Int} {s : List UInt8} (hp : 1 ≤ pa ∧ pa ≤ 4) (hr : scalar r = true) (hs : (numT s).2 = 0) (hn : s.length ≤ 100) : compileT (encs (padPD pa r s).codes) = ((padPD pa r s).pat, 0, 0) := by
  have := pads_few (pa := pa) (r := r) hn
  rw [comp_build (pads_ok hp hr hs) (by omega), pads_both]; rfl
theorem pad_second {T1 T2 : List Tok} {nums : List Iv} {pa r p q : Int} {I1 I2 : List Itm} {t : List UInt8} (h : HalfOK T1 nums T2 pa I1 I2 t true) (h1 : 1 ≤ pa) (hI : I2 ≠ []) :
    (compE (halfE T1 nums T2 pa r p ++ [Iv.padding r q])).2.1 = 7 ∧ (pa ≠ 4 → compE (halfE T1 nums T2 pa r p ++ [Iv.padding r q]) = (p0, 7, q)) := by
  have a1 := toks_aside h.m1 h.o1
  have a2 := toks_aside h.m2 h.o2
  have hT2 := toks_ne h.m2 hI
  have hl : T2.length ≠ 0 := fun e => hT2 (List.length_eq_zero_iff.1 e)
  have hs := half_semi (r := r) (p := p) h
  have hs2 : ∀ y ∈ halfE T1 nums T2 pa r p ++ [Iv.padding r q], isIn [59] y = false := fun y hy => (List.mem_append.1 hy).elim (hs y) fun hy => by rw [List.mem_singleton.1 hy]; rfl
  have ha : aheadN (halfE T1 nums T2 pa r p ++ [Iv.padding r q]) = (halfE T1 nums T2 pa r p ++ [Iv.padding r q]).length := by
    have := findIdx_app (P := isIn [59]) [] hs2
    rw [List.append_nil] at this
    exact this
  have hb : behindL (halfE T1 nums T2 pa r p ++ [Iv.padding r q]) = [] := by
    unfold behindL; rw [ha]; exact List.drop_of_length_le (by omega)
  have e0 : halfE T1 nums T2 pa r p ++ [Iv.padding r q] = (padAt 1 pa (Iv.padding r p) ++ T1.map Tok.sg ++ padAt 2 pa (Iv.padding r p)) ++ (nums ++ (padAt 3 pa (Iv.padding r p) ++ T2.map Tok.sg ++ padAt 4 pa (Iv.padding r p) ++ [Iv.padding r q])) := by
    unfold halfE; simp
  have hin : ∀ {c : List UInt8}, (∀ t ∈ T2, isIn c t.sg = false) → ∀ y ∈ padAt 3 pa (Iv.padding r p) ++ T2.map Tok.sg ++ padAt 4 pa (Iv.padding r p) ++ [Iv.padding r q], isIn c y = false := fun hc y hy =>
    (List.mem_append.1 hy).elim (side_is hc y) fun hy => by rw [List.mem_singleton.1 hy]; rfl
  obtain ⟨a, hc⟩ := cut_build (pre := padAt 1 pa (Iv.padding r p) ++ T1.map Tok.sg ++ padAt 2 pa (Iv.padding r p)) (suf := padAt 3 pa (Iv.padding r p) ++ T2.map Tok.sg ++ padAt 4 pa (Iv.padding r p) ++ [Iv.padding r q]) 0
    (side_is fun t ht => aside_body (a1 t ht)) h.hn h.ht (fun y hy => ⟨hin (fun t ht => aside_body (a2 t ht)) y (List.mem_of_head? hy), hin (fun t ht => aside_E (a2 t ht)) y (List.mem_of_head? hy)⟩)
  have hsp : (paddedT (spotsT (padAt 1 pa (Iv.padding r p) ++ T1.map Tok.sg ++ padAt 2 pa (Iv.padding r p)) (padAt 3 pa (Iv.padding r p) ++ T2.map Tok.sg ++ padAt 4 pa (Iv.padding r p) ++ [Iv.padding r q])) true).2.1 = 7 ∧
      (pa ≠ 4 → (paddedT (spotsT (padAt 1 pa (Iv.padding r p) ++ T1.map Tok.sg ++ padAt 2 pa (Iv.padding r p)) (padAt 3 pa (Iv.padding r p) ++ T2.map Tok.sg ++ padAt 4 pa (Iv.padding r p) ++ [Iv.padding r q])) true).2 = (7, q)) := by
    unfold spotsT
    rw [spots_side 1 2 (by decide) (fun e => toks_ne h.m1 (h.pa2 e))]
    have hpa := h.pa0
    have one : ∀ (N : Nat) (j : Nat), j ≠ 0 → j + 1 = N → spotsN N 3 4 j [Iv.padding r q] = [⟨r, q, 4⟩] := fun N j h0 h1 => by
      show [(⟨r, q, if j = 0 then 3 else if j + 1 = N then 4 else 0⟩ : Spot)] ++ [] = _
      rw [if_neg h0, if_pos h1]; rfl
    have two : ∀ x y : Spot, x.w ≠ 0 → paddedT [x, y] true = (⟨0, 0, 0⟩, 7, y.p) := fun x y hx => by
      unfold paddedT
      dsimp only
      rw [if_neg (by rintro (e | e); exact hx e; cases e)]
    have : pa = 1 ∨ pa = 2 ∨ pa = 3 ∨ pa = 4 := by omega
    rcases this with e | e | e | e
    · subst e
      have : spotsN (padAt 3 1 (Iv.padding r p) ++ T2.map Tok.sg ++ padAt 4 1 (Iv.padding r p) ++ [Iv.padding r q]).length 3 4 0 (padAt 3 1 (Iv.padding r p) ++ T2.map Tok.sg ++ padAt 4 1 (Iv.padding r p) ++ [Iv.padding r q]) = [⟨r, q, 4⟩] := by
        show spotsN (T2.map Tok.sg ++ [] ++ [Iv.padding r q]).length 3 4 0 (T2.map Tok.sg ++ [] ++ [Iv.padding r q]) = _
        rw [List.append_nil, spotsN_sg, one _ _ (by omega) (by simp)]
      rw [this]
      have k := two ⟨r, p, 1⟩ ⟨r, q, 4⟩ (show ¬ (1 : Int) = 0 by decide)
      exact ⟨congrArg (fun x => x.2.1) k, fun _ => congrArg (fun x => x.2) k⟩
    · subst e
      have : spotsN (padAt 3 2 (Iv.padding r p) ++ T2.map Tok.sg ++ padAt 4 2 (Iv.padding r p) ++ [Iv.padding r q]).length 3 4 0 (padAt 3 2 (Iv.padding r p) ++ T2.map Tok.sg ++ padAt 4 2 (Iv.padding r p) ++ [Iv.padding r q]) = [⟨r, q, 4⟩] := by
        show spotsN (T2.map Tok.sg ++ [] ++ [Iv.padding r q]).length 3 4 0 (T2.map Tok.sg ++ [] ++ [Iv.padding r q]) = _
        rw [List.append_nil, spotsN_sg, one _ _ (by omega) (by simp)]
      rw [this]
      have k := two ⟨r, p, 2⟩ ⟨r, q, 4⟩ (show ¬ (2 : Int) = 0 by decide)
      exact ⟨congrArg (fun x => x.2.1) k, fun _ => congrArg (fun x => x.2) k⟩
    · subst e
      have : spotsN (padAt 3 3 (Iv.padding r p) ++ T2.map Tok.sg ++ padAt 4 3 (Iv.padding r p) ++ [Iv.padding r q]).length 3 4 0 (padAt 3 3 (Iv.padding r p) ++ T2.map Tok.sg ++ padAt 4 3 (Iv.padding r p) ++ [Iv.padding r q]) = [⟨r, p, 3⟩, ⟨r, q, 4⟩] := by
        show [_] ++ spotsN ([Iv.padding r p] ++ T2.map Tok.sg ++ [] ++ [Iv.padding r q]).length 3 4 1 (T2.map Tok.sg ++ [] ++ [Iv.padding r q]) = _
        rw [List.append_nil, List.append_nil, spotsN_sg, one _ _ (by omega) (by simp; omega)]; rfl
      rw [this]
      have k := two ⟨r, p, 3⟩ ⟨r, q, 4⟩ (show ¬ (3 : Int) = 0 by decide)
      exact ⟨congrArg (fun x => x.2.1) k, fun _ => congrArg (fun x => x.2) k⟩
    · subst e
      have : spotsN (padAt 3 4 (Iv.padding r p) ++ T2.map Tok.sg ++ padAt 4 4 (Iv.padding r p) ++ [Iv.padding r q]).length 3 4 0 (padAt 3 4 (Iv.padding r p) ++ T2.map Tok.sg ++ padAt 4 4 (Iv.padding r p) ++ [Iv.padding r q]) = [⟨r, p, 0⟩, ⟨r, q, 4⟩] := by
        show spotsN ([] ++ T2.map Tok.sg ++ [Iv.padding r p] ++ [Iv.padding r q]).length 3 4 0 ([] ++ T2.map Tok.sg ++ [Iv.padding r p] ++ [Iv.padding r q]) = _
        rw [List.nil_append, List.append_assoc, spotsN_sg]
        show [(⟨r, p, if 0 + T2.length = 0 then 3 else if 0 + T2.length + 1 = (T2.map Tok.sg ++ ([Iv.padding r p] ++ [Iv.padding r q])).length then 4 else 0⟩ : Spot)] ++ spotsN _ 3 4 (0 + T2.length + 1) [Iv.padding r q] = _
        rw [if_neg (by omega), if_neg (by simp), one _ _ (by omega) (by simp)]; rfl
      rw [this]
      exact ⟨rfl, fun e => absurd rfl e⟩
  have hread : readT (halfE T1 nums T2 pa r p ++ [Iv.padding r q]) 0 true = (pt0, (paddedT (spotsT (padAt 1 pa (Iv.padding r p) ++ T1.map Tok.sg ++ padAt 2 pa (Iv.padding r p)) (padAt 3 pa (Iv.padding r p) ++ T2.map Tok.sg ++ padAt 4 pa (Iv.padding r p) ++ [Iv.padding r q])) true).2) := by
    unfold readT
    rw [e0, hc]
    dsimp only
    rw [if_neg (by decide), if_pos (by rw [hsp.1]; decide)]
  have hcomp : compE (halfE T1 nums T2 pa r p ++ [Iv.padding r q]) = (p0, (paddedT (spotsT (padAt 1 pa (Iv.padding r p) ++ T1.map Tok.sg ++ padAt 2 pa (Iv.padding r p)) (padAt 3 pa (Iv.padding r p) ++ T2.map Tok.sg ++ padAt 4 pa (Iv.padding r p) ++ [Iv.padding r q])) true).2) := by
    unfold compE
    rw [hb, ha, List.take_length, hread, if_neg (show ¬ aheadN [] < ([] : List Iv).length by decide), if_pos]
    rw [hsp.1]; decide
  rw [hcomp]
  exact ⟨hsp.1, fun h4 => by rw [hsp.2 h4]⟩
theorem pads_two {pa r : Int} {s : List UInt8} (hp : 1 ≤ pa ∧ pa ≤ 4) (hr : scalar r = true) (h39 : r ≠ 39) (hs : (numT s).2 = 0) (hn : s.length ≤ 100) :
    (compileT (encs (padPD pa r s).codes ++ 42 :: enc r)).2.1 = 7 ∧ (pa ≠ 4 → compileT (encs (padPD pa r s).codes ++ 42 :: enc r) = (p0, 7, ((encs (padPD pa r s).codes).length : Int))) := by
  have hk := pads_ok hp hr hs
  have hf := pads_few (pa := pa) (r := r) hn
  have hm : Scalars [42, r] := scalars_cons.2 ⟨by decide, scalars_cons.2 ⟨hr, scalars_nil⟩⟩
  obtain ⟨ys, y1, y2⟩ := hk.sc.2 [42, r] 0 hm (by decide) (fun e => absurd (Option.some.inj e) (by decide))
  have e1 : scanL [42, r] (0 + ((encs (padPD pa r s).codes).length : Int)) (-1) = (-1, [.plain 42 ((encs (padPD pa r s).codes).length : Int), .plain r ((encs (padPD pa r s).codes).length + (enc 42).length : Int)]) := by
    obtain ⟨zs, z1, z2⟩ := Steps.trans (steps_plain (a := 0 + ((encs (padPD pa r s).codes).length : Int)) (o := -1) (r := 42) (m := [r] ++ []) (by decide) (scalars_cons.2 ⟨hr, scalars_nil⟩) (by decide) (by decide)) (steps_plain hr scalars_nil h39 (by decide))
    rw [scanL_cons hm]
    have s1 : scanStep [42, r] (0 + ((encs (padPD pa r s).codes).length : Int)) (-1) = ([r], 0 + ((encs (padPD pa r s).codes).length : Int) + (enc 42).length, -1, [.plain 42 (0 + ((encs (padPD pa r s).codes).length : Int))]) := by
      unfold scanStep; dsimp only; rw [if_neg (by decide), if_pos (by decide)]
    rw [s1]
    dsimp only
    rw [scanL_cons (scalars_cons.2 ⟨hr, scalars_nil⟩)]
    have s2 : ∀ a, scanStep [r] a (-1) = ([], a + (enc r).length, -1, [.plain r a]) := fun a => by
      unfold scanStep; dsimp only; rw [if_neg h39, if_pos (by decide)]
    rw [s2, scanL_nil, Int.zero_add]; rfl
  rw [e1] at y2
  have hcat : encs (padPD pa r s).codes ++ 42 :: enc r = encs ((padPD pa r s).codes ++ [42, r]) := by
    rw [encs_append, encs_cons, encs_one, show enc 42 = [42] by decide]; rfl
  have hsc : Scalars ((padPD pa r s).codes ++ [42, r]) := scalars_append.2 ⟨hk.sc.1, hm⟩
  have hd := decomp_encs hsc
  have hb : badAt (encs ((padPD pa r s).codes ++ [42, r])) = -1 := by unfold badAt; rw [hd, if_pos rfl]
  have hF : scanF (encs ((padPD pa r s).codes ++ [42, r])) = (-1, ys ++ [.plain 42 ((encs (padPD pa r s).codes).length : Int), .plain r ((encs (padPD pa r s).codes).length + (enc 42).length : Int)]) := by
    unfold scanF
    rw [hd]
    exact y2
  have hyl : ys.length ≤ 110 := by
    have := congrArg List.length y1
    rw [List.length_map] at this; omega
  have hT : scanT (encs ((padPD pa r s).codes ++ [42, r])) = (ys.map Iv.tok ++ [⟨42, false, ((encs (padPD pa r s).codes).length : Int)⟩, ⟨r, false, ((encs (padPD pa r s).codes).length + (enc 42).length : Int)⟩], 0, 0) := by
    unfold scanT
    rw [hb, hF, if_neg (by decide), if_neg (show ¬ (0 : Int) ≤ -1 by decide), if_neg (by simp; omega), List.map_append]; rfl
  have hmap : (ys.map Iv.tok).map Tok.rq = (padPD pa r s).toks := by rw [← y1, List.map_map]; rfl
  obtain ⟨T1, Tn, T2, p, hh, hk2⟩ := hk.elems hmap
  rcases hk2 with ⟨_, hk2⟩ | ⟨h0, _⟩
  · have he := elemsL_cat _ (ys.map Iv.tok) (Nat.le_refl _) (by rw [hk2]) [⟨42, false, ((encs (padPD pa r s).codes).length : Int)⟩, ⟨r, false, ((encs (padPD pa r s).codes).length + (enc 42).length : Int)⟩]
    rw [hk2, show elemsL [⟨42, false, ((encs (padPD pa r s).codes).length : Int)⟩, ⟨r, false, ((encs (padPD pa r s).codes).length + (enc 42).length : Int)⟩] = ([Iv.padding r ((encs (padPD pa r s).codes).length : Int)], none) from rfl] at he
    have hcomp : compileT (encs ((padPD pa r s).codes ++ [42, r])) = compE (halfE T1 (Tn.map Tok.sg) T2 pa r p ++ [Iv.padding r ((encs (padPD pa r s).codes).length : Int)]) := by
      unfold compileT
      rw [hT]
      dsimp only
      rw [if_neg (fun e => e rfl)]
      unfold elemsR
      rw [he]
      dsimp only
      rw [if_neg (fun e => e rfl)]; rfl
    rw [hcat, hcomp]
    exact pad_second hh hp.1 (List.cons_ne_nil _ _)
  · cases h0
end Go.Proofs.YtglfkihckkjniaaGreatDoor.Vx
namespace Go.Proofs.YtglfkihckkjniaaGreatDoor.Vx
open Go Go.RowKit
def intN : Int → Option Nat
  | .ofNat n => some n
  | _ => none
def litHook (tbl : Tbl) : Hook := fun _ o ev m =>
  match o.op with
  | .indexAddr T x i =>
    match ev x, ev i with
    | some (.one (.slc k)), some (.one (.int _ n)) =>
      match (sliceOf tbl T).bind fun e => look e tbl, m k, intN n with
      | some t, some (.lit _ c _), some j => bif Nat.blt j c then some ([], ⟨.one (.ptr k (j * t.size)), []⟩) else none
      | _, _, _ => none
    | _, _ => none
  | _ => none
theorem litHook_ok {tbl : Tbl} {G : Ctx → Prop} : HookOK tbl G (litHook tbl) := by
  intro C ρ S a w fr o ev m H hG ps e hk hp
  unfold litHook at hk
  split at hk
  · rename_i T x i ho
    split at hk
    · rename_i k kd n e1 e2
      obtain ⟨u, h1, h2⟩ := H.val e1
      obtain ⟨u', h3, h4⟩ := H.val e2
      simp only [denV, den, Option.some.injEq] at h1 h3
      subst h3
      split at hk
      · rename_i t ty c cs j ht hm hj
        cases hb : Nat.blt j c with
        | false => rw [hb] at hk; cases hk
        | true =>
          rw [hb, cond_true] at hk
          cases hk
          have hlt : j < c := Nat.le_of_ble_eq_true hb
          have hn : n = (j : Int) := by
            cases n with
            | ofNat q => cases hj; rfl
            | negSucc q => cases hj
          subst hn
          simp only [Option.bind_eq_some_iff] at ht
          obtain ⟨ee, t1, t2⟩ := ht
          obtain ⟨y, hy, b, vs, g1, g2, g3, g4⟩ := H.sat.mem k _ (H.mem k _ hm)
          rw [h1] at hy; cases hy
          subst g1
          refine H.pure (v := .pointer (some ⟨b, 0 + (j : Int).toNat * t.size, none⟩)) ?_ ?_
          · unfold execOp
            simp only [ho, h2, h4]
            rw [Sem.run_bind, indexAt_slice H.tbl t1 t2 kd (j : Int) b 0 c c (by omega) (by omega)]
            rfl
          · simp [denV, den, denPtr, h1, baseOf]
      · cases hk
    · cases hk
  · cases hk
theorem Sat.writeB {C : Ctx} {ρ : Env} {S : AS} {a : Act} {w : World} (h : Sat C ρ S a w) (dst : Option Nat) (x : SV) (v : Value) {k : Nat} {B B' : SB} (hk : S.blk k = some B) (hm : B.mut = true)
    {b : Nat} {u : Value} (hu : ρ k = some u) (hb : foot u B = some b) (hb' : foot u B' = some b) {w' : World} (hw : Fr (fun i => i = b) w w') (hB : SBok C ρ w' u B')
    (hd : ∀ d, dst = some d → d < C.nt) (hv : dst ≠ none → x ≠ .one .und → denV ρ x = some v) : Sat C ρ (S.upd dst ⟨x, [(k, some B')]⟩) (a.put dst v) w' := by
  obtain ⟨u', e1, e2⟩ := h.mem k _ hk
  rw [hu] at e1; cases e1
  have hown : C.own b := e2.own hm b hb
  refine h.step (G := fun i => i = b) dst ⟨x, [(k, some B')]⟩ v (Env.le_refl ρ) h.one (fun _ _ => rfl) hw (fun i hi => by subst hi; exact hown) hv hd ?_ ?_ ?_
  · intro k' b' u' hl hk' hu' g hg hgb
    rw [look_cons] at hl
    split at hl
    · cases hl
    · rename_i hne
      subst hgb
      exact h.apart k k' _ b' u u' hne hk hk' hm hu hu' g hb hg
  · intro k' b' hl
    rw [look_cons] at hl
    split at hl
    · subst_vars; cases hl
      exact ⟨u, hu, hB⟩
    · cases hl
  · intro k1 b1 u1 k2 b2 u2 hl hu1 hne hl2 hu2 _
    rw [look_cons] at hl
    split at hl
    · rename_i e
      subst e
      cases hl
      rw [hu] at hu1; cases hu1
      rw [look_cons, if_neg (Ne.symm hne)] at hl2
      rcases hl2 with hl2 | ⟨_, hl2⟩
      · cases hl2
      · intro g hg hg2
        rw [hb'] at hg; cases hg
        exact h.apart k k2 _ b2 u u2 (Ne.symm hne) hk hl2 hm hu hu2 _ hb hg2
    · cases hl
def litStore (tbl : Tbl) : Hook := fun _ o ev m =>
  match o.op with
  | .store T x y =>
    match look T tbl, ev x, (ev y).bind cellsOf with
    | some i, some (.one (.ptr k off)), some new =>
      match m k with
      | some (.lit ty n cs) => bif Nat.beq new.length i.size && Nat.ble (off + i.size) cs.length then some ([], ⟨.one .und, [(k, some (.lit ty n (cs.take off ++ new ++ cs.drop (off + i.size))))]⟩) else none
      | _ => none
    | _, _, _ => none
  | _ => none
theorem litStore_ok {tbl : Tbl} {G : Ctx → Prop} : HookOK tbl G (litStore tbl) := by
  intro C ρ S a w fr o ev m H hG ps e hk0 hp
  unfold litStore at hk0
  split at hk0
  · rename_i T x y ho
    split at hk0
    · rename_i i k off new hi hev hnew
      split at hk0
      · rename_i ty n cs hm
        simp only [Option.bind_eq_some_iff] at hnew
        obtain ⟨sv, h1, h2⟩ := hnew
        obtain ⟨u, h3, h4⟩ := H.val h1
        obtain ⟨q, h5, h6⟩ := H.val hev
        have hu := cellsOf_den H.sat.one h2 h3
        have hul := denL_length hu
        rw [Array.length_toList] at hul
        have hk := H.mem k _ hm
        obtain ⟨yv, hy, b, vs, b1, b2, b3, b4⟩ := H.sat.mem k _ hk
        have hvl := denL_length b2
        obtain ⟨inf, d, z, t⟩ := tbl_get H.tbl hi
        cases hc : Nat.beq new.length i.size && Nat.ble (off + i.size) cs.length with
        | false => rw [hc] at hk0; cases hk0
        | true =>
          rw [hc] at hk0
          simp only [cond_true, Option.some.injEq, Prod.mk.injEq] at hk0
          obtain ⟨_, rfl⟩ := hk0
          simp only [Bool.and_eq_true] at hc
          have c1 := Nat.eq_of_beq_eq_true hc.1
          have c2 := Nat.le_of_ble_eq_true hc.2
          subst b1
          have hq : q = .pointer (some ⟨b, off, none⟩) := by
            simp only [denV, den, denPtr, hy, Option.bind_some, baseOf, Option.map_some, Option.some.injEq] at h5
            exact h5.symm
          have hst := run_storeCells_at C.P b off ty u.cells.toList 0 vs.toArray w b3 (by simp; omega) (denL_oneCell H.sat.one hu)
          have hden : denL ρ (cs.take off ++ new ++ cs.drop (off + i.size)) = some (vs.take off ++ u.cells.toList ++ vs.drop (off + i.size)) := denL_append (denL_append (denL_take b2 _) hu) (denL_drop b2 _)
          refine does_skip (w' := w.setRow b (vs.take off ++ u.cells.toList ++ vs.drop (off + i.size)).toArray) ?_ (Env.le_refl ρ) (Dom.refl ρ fr)
            (H.sat.writeB o.dst _ undef hk rfl hy rfl rfl (Fr.setRow w b _) ⟨b, _, rfl, hden, setRow_heap w b _ _ ty _ b3, b4⟩ H.dst (fun _ hne => absurd rfl hne))
          unfold execOp
          simp only [ho, Instr.storeAt, Instr.sureAddr, h4, h6, hq, Sem.run_bind, Sem.run_pure, Result.andThen_ok, storeVar, t.run_size]
          rw [if_neg (by omega)]
          simp only [Sem.run_bind, Sem.run_pure, Result.andThen_ok, hst]
          simp only [Nat.add_zero, Array.length_toList, hul, c1]
      · cases hk0
    · cases hk0
  · cases hk0
def miscP : Hook := orHook (litStore T) (orHook (litHook T) misc)
theorem miscP_ok : HookOK T (GC Tryz.prog Gl) miscP := orHook_ok litStore_ok (orHook_ok litHook_ok misc_ok)
def starT (r : Int) : List UInt8 := 42 :: enc r
structure PadC (r : Int) (s : List UInt8) : Prop where
  r1 : scalar r = true
  r2 : r ≠ 39
  s1 : s.length ≤ 100
  s2 : (numT s).2 = 0
def sp_pads0 : FSpec := ⟨[], fun | [.one (.int .i32 r), .one (.int .u8 m), .one (.str s), .one (.bool two)] => some ([s.length ≤ 9223372036854775807, 0 ≤ m, m % 4 = 0], .one (.bool true)) | _ => none⟩
theorem vc_pads0 (r m : Int) (s : List UInt8) (two : Bool) : vcP [(21, sp_scalar), (13, sp_ans16), (18, sp_r3num), (22, sp_bytes), (14, sp_pcompile)] [] miscP Tryz.f7 (.cut 8 (PLift (PadC r s)) (fun _ => ⟨[(0, .one (.int .i32 r)), (2, .one (.str s)), (3, .one (.bool two)), (11, .one (.str (starT r))), (12, .one (.int .i64 0))], [], 17⟩) (fun _ => .nil) .nil) [.one (.int .i32 r), .one (.int .u8 m), .one (.str s), .one (.bool two)] (.one (.bool true)) = (letI v0 := (starT r ++ Array.toList #[(97 : UInt8)] ++ ([] : List UInt8) ++ s ++ ([] : List UInt8) ++ Array.toList #[(98 : UInt8)] ++ ([] : List UInt8)); letI v1 := (starT r ++ Array.toList #[(97 : UInt8)] ++ ([] : List UInt8) ++ s ++ ([] : List UInt8) ++ Array.toList #[(98 : UInt8)] ++ ([] : List UInt8) ++ starT r); (br (!scalar r) (true = true) (br (r == (39 : Int)) (true = true) (br (decide ((↑(List.length s) : Int) > (100 : Int))) (true = true) (List.length s ≤ (1000000000 : Nat) ∧ br ((numT s).2 != (0 : Int)) (true = true) (scalar r = true ∧ List.length (Array.toList #[(42 : UInt8)]) + List.length (List.map (fun (n : Int) => UInt8.ofNat (Int.toNat n)) (Lib.encodeRuneZ r)) ≤ (9223372036854775807 : Nat) ∧ (((0 : Int) ≤ m ∧ (0 : Int) < (4 : Int)) ∧ inR IntKind.i64 (m % (4 : Int)) ∧ ∃ (j : PLift (PadC r s)), r = r ∧ s = s ∧ two = two ∧ Array.toList #[(42 : UInt8)] ++ List.map (fun (n : Int) => UInt8.ofNat (Int.toNat n)) (Lib.encodeRuneZ r) = starT r ∧ m % (4 : Int) = (0 : Int)) ∧ ∀ (j : PLift (PadC r s)), List.length (starT r) + List.length (Array.toList #[(97 : UInt8)]) ≤ (9223372036854775807 : Nat) ∧ List.length (starT r ++ Array.toList #[(97 : UInt8)]) + List.length (([] : List UInt8)) ≤ (9223372036854775807 : Nat) ∧ List.length (starT r ++ Array.toList #[(97 : UInt8)] ++ ([] : List UInt8)) + List.length s ≤ (9223372036854775807 : Nat) ∧ List.length (starT r ++ Array.toList #[(97 : UInt8)] ++ ([] : List UInt8) ++ s) + List.length (([] : List UInt8)) ≤ (9223372036854775807 : Nat) ∧ List.length (starT r ++ Array.toList #[(97 : UInt8)] ++ ([] : List UInt8) ++ s ++ ([] : List UInt8)) + List.length (Array.toList #[(98 : UInt8)]) ≤ (9223372036854775807 : Nat) ∧ List.length (starT r ++ Array.toList #[(97 : UInt8)] ++ ([] : List UInt8) ++ s ++ ([] : List UInt8) ++ Array.toList #[(98 : UInt8)]) + List.length (([] : List UInt8)) ≤ (9223372036854775807 : Nat) ∧ br two (List.length v0 + List.length (starT r) ≤ (9223372036854775807 : Nat) ∧ List.length v1 ≤ (1000000 : Nat) ∧ (decide ((compileT v1).2.1 = (7 : Int)) && decide ((compileT v1).2.2 = (↑(List.length v0) : Int))) = true) (List.length v0 ≤ (1000000 : Nat) ∧ br ((compileT v0).2.1 == (0 : Int)) (inR IntKind.i64 ((0 : Int) + (1 : Int)) ∧ br (Pat.pa (compileT v0).1 == (0 : Int) + (1 : Int)) (br (Pat.pd (compileT v0).1 == r) (inR IntKind.i64 ((↑(List.length s) : Int) + (2 : Int)) ∧ (Pat.pw (compileT v0).1 == (↑(List.length s) : Int) + (2 : Int)) = true) (false = true)) (false = true)) (false = true)))))))) := by kernel_rfl
set_option maxHeartbeats 4000000 in
theorem of_pads0 (h : ∀ (r m : Int) (s : List UInt8) (two : Bool), (s.length ≤ 9223372036854775807) → (0 ≤ m) → (m % 4 = 0) → vcP [(21, sp_scalar), (13, sp_ans16), (18, sp_r3num), (22, sp_bytes), (14, sp_pcompile)] [] miscP Tryz.f7 (.cut 8 (PLift (PadC r s)) (fun _ => ⟨[(0, .one (.int .i32 r)), (2, .one (.str s)), (3, .one (.bool two)), (11, .one (.str (starT r))), (12, .one (.int .i64 0))], [], 17⟩) (fun _ => .nil) .nil) [.one (.int .i32 r), .one (.int .u8 m), .one (.str s), .one (.bool two)] (.one (.bool true))) : FnP 7 sp_pads0 := by
  refine fnP_ok (cs := [(21, sp_scalar), (13, sp_ans16), (18, sp_r3num), (22, sp_bytes), (14, sp_pcompile)]) (cas := []) (ms := miscP) (.cons ok_scalar (.cons ok_ans16 (.cons ok_r3num (.cons ok_bytes (.cons ok_pcompile .nil))))) .nil miscP_ok 7 Tryz.f7 (by kernel_rfl) (by kernel_rfl) (by kernel_rfl) (fun | [.one (.int .i32 r), .one (.int .u8 m), .one (.str s), .one (.bool two)] => .cut 8 (PLift (PadC r s)) (fun _ => ⟨[(0, .one (.int .i32 r)), (2, .one (.str s)), (3, .one (.bool two)), (11, .one (.str (starT r))), (12, .one (.int .i64 0))], [], 17⟩) (fun _ => .nil) .nil | _ => .nil) ?_
  intro pvs p r hs hp
  unfold sp_pads0 at hs
  simp only at hs
  split at hs
  · rename_i r m s two
    cases hs
    refine h r m s two ?_ ?_ ?_
    · exact hp.1
    · exact hp.2.1
    · exact hp.2.2
  · cases hs
def sp_pads1 : FSpec := ⟨[], fun | [.one (.int .i32 r), .one (.int .u8 m), .one (.str s), .one (.bool two)] => some ([s.length ≤ 9223372036854775807, 0 ≤ m, m % 4 = 1], .one (.bool true)) | _ => none⟩
theorem vc_pads1 (r m : Int) (s : List UInt8) (two : Bool) : vcP [(21, sp_scalar), (13, sp_ans16), (18, sp_r3num), (22, sp_bytes), (14, sp_pcompile)] [] miscP Tryz.f7 (.cut 8 (PLift (PadC r s)) (fun _ => ⟨[(0, .one (.int .i32 r)), (2, .one (.str s)), (3, .one (.bool two)), (11, .one (.str (starT r))), (12, .one (.int .i64 1))], [], 17⟩) (fun _ => .nil) .nil) [.one (.int .i32 r), .one (.int .u8 m), .one (.str s), .one (.bool two)] (.one (.bool true)) = (letI v0 := (([] : List UInt8) ++ Array.toList #[(97 : UInt8)] ++ starT r ++ s ++ ([] : List UInt8) ++ Array.toList #[(98 : UInt8)] ++ ([] : List UInt8)); letI v1 := (([] : List UInt8) ++ Array.toList #[(97 : UInt8)] ++ starT r ++ s ++ ([] : List UInt8) ++ Array.toList #[(98 : UInt8)] ++ ([] : List UInt8) ++ starT r); (br (!scalar r) (true = true) (br (r == (39 : Int)) (true = true) (br (decide ((↑(List.length s) : Int) > (100 : Int))) (true = true) (List.length s ≤ (1000000000 : Nat) ∧ br ((numT s).2 != (0 : Int)) (true = true) (scalar r = true ∧ List.length (Array.toList #[(42 : UInt8)]) + List.length (List.map (fun (n : Int) => UInt8.ofNat (Int.toNat n)) (Lib.encodeRuneZ r)) ≤ (9223372036854775807 : Nat) ∧ (((0 : Int) ≤ m ∧ (0 : Int) < (4 : Int)) ∧ inR IntKind.i64 (m % (4 : Int)) ∧ ∃ (j : PLift (PadC r s)), r = r ∧ s = s ∧ two = two ∧ Array.toList #[(42 : UInt8)] ++ List.map (fun (n : Int) => UInt8.ofNat (Int.toNat n)) (Lib.encodeRuneZ r) = starT r ∧ m % (4 : Int) = (1 : Int)) ∧ ∀ (j : PLift (PadC r s)), List.length (([] : List UInt8)) + List.length (Array.toList #[(97 : UInt8)]) ≤ (9223372036854775807 : Nat) ∧ List.length (([] : List UInt8) ++ Array.toList #[(97 : UInt8)]) + List.length (starT r) ≤ (9223372036854775807 : Nat) ∧ List.length (([] : List UInt8) ++ Array.toList #[(97 : UInt8)] ++ starT r) + List.length s ≤ (9223372036854775807 : Nat) ∧ List.length (([] : List UInt8) ++ Array.toList #[(97 : UInt8)] ++ starT r ++ s) + List.length (([] : List UInt8)) ≤ (9223372036854775807 : Nat) ∧ List.length (([] : List UInt8) ++ Array.toList #[(97 : UInt8)] ++ starT r ++ s ++ ([] : List UInt8)) + List.length (Array.toList #[(98 : UInt8)]) ≤ (9223372036854775807 : Nat) ∧ List.length (([] : List UInt8) ++ Array.toList #[(97 : UInt8)] ++ starT r ++ s ++ ([] : List UInt8) ++ Array.toList #[(98 : UInt8)]) + List.length (([] : List UInt8)) ≤ (9223372036854775807 : Nat) ∧ br two (List.length v0 + List.length (starT r) ≤ (9223372036854775807 : Nat) ∧ List.length v1 ≤ (1000000 : Nat) ∧ (decide ((compileT v1).2.1 = (7 : Int)) && decide ((compileT v1).2.2 = (↑(List.length v0) : Int))) = true) (List.length v0 ≤ (1000000 : Nat) ∧ br ((compileT v0).2.1 == (0 : Int)) (inR IntKind.i64 ((1 : Int) + (1 : Int)) ∧ br (Pat.pa (compileT v0).1 == (1 : Int) + (1 : Int)) (br (Pat.pd (compileT v0).1 == r) (inR IntKind.i64 ((↑(List.length s) : Int) + (2 : Int)) ∧ (Pat.pw (compileT v0).1 == (↑(List.length s) : Int) + (2 : Int)) = true) (false = true)) (false = true)) (false = true)))))))) := by kernel_rfl
set_option maxHeartbeats 4000000 in
theorem of_pads1 (h : ∀ (r m : Int) (s : List UInt8) (two : Bool), (s.length ≤ 9223372036854775807) → (0 ≤ m) → (m % 4 = 1) → vcP [(21, sp_scalar), (13, sp_ans16), (18, sp_r3num), (22, sp_bytes), (14, sp_pcompile)] [] miscP Tryz.f7 (.cut 8 (PLift (PadC r s)) (fun _ => ⟨[(0, .one (.int .i32 r)), (2, .one (.str s)), (3, .one (.bool two)), (11, .one (.str (starT r))), (12, .one (.int .i64 1))], [], 17⟩) (fun _ => .nil) .nil) [.one (.int .i32 r), .one (.int .u8 m), .one (.str s), .one (.bool two)] (.one (.bool true))) : FnP 7 sp_pads1 := by
  refine fnP_ok (cs := [(21, sp_scalar), (13, sp_ans16), (18, sp_r3num), (22, sp_bytes), (14, sp_pcompile)]) (cas := []) (ms := miscP) (.cons ok_scalar (.cons ok_ans16 (.cons ok_r3num (.cons ok_bytes (.cons ok_pcompile .nil))))) .nil miscP_ok 7 Tryz.f7 (by kernel_rfl) (by kernel_rfl) (by kernel_rfl) (fun | [.one (.int .i32 r), .one (.int .u8 m), .one (.str s), .one (.bool two)] => .cut 8 (PLift (PadC r s)) (fun _ => ⟨[(0, .one (.int .i32 r)), (2, .one (.str s)), (3, .one (.bool two)), (11, .one (.str (starT r))), (12, .one (.int .i64 1))], [], 17⟩) (fun _ => .nil) .nil | _ => .nil) ?_
  intro pvs p r hs hp
  unfold sp_pads1 at hs
  simp only at hs
  split at hs
  · rename_i r m s two
    cases hs
    refine h r m s two ?_ ?_ ?_
    · exact hp.1
    · exact hp.2.1
    · exact hp.2.2
  · cases hs
def sp_pads2 : FSpec := ⟨[], fun | [.one (.int .i32 r), .one (.int .u8 m), .one (.str s), .one (.bool two)] => some ([s.length ≤ 9223372036854775807, 0 ≤ m, m % 4 = 2], .one (.bool true)) | _ => none⟩
theorem vc_pads2 (r m : Int) (s : List UInt8) (two : Bool) : vcP [(21, sp_scalar), (13, sp_ans16), (18, sp_r3num), (22, sp_bytes), (14, sp_pcompile)] [] miscP Tryz.f7 (.cut 8 (PLift (PadC r s)) (fun _ => ⟨[(0, .one (.int .i32 r)), (2, .one (.str s)), (3, .one (.bool two)), (11, .one (.str (starT r))), (12, .one (.int .i64 2))], [], 17⟩) (fun _ => .nil) .nil) [.one (.int .i32 r), .one (.int .u8 m), .one (.str s), .one (.bool two)] (.one (.bool true)) = (letI v0 := (([] : List UInt8) ++ Array.toList #[(97 : UInt8)] ++ ([] : List UInt8) ++ s ++ starT r ++ Array.toList #[(98 : UInt8)] ++ ([] : List UInt8)); letI v1 := (([] : List UInt8) ++ Array.toList #[(97 : UInt8)] ++ ([] : List UInt8) ++ s ++ starT r ++ Array.toList #[(98 : UInt8)] ++ ([] : List UInt8) ++ starT r); (br (!scalar r) (true = true) (br (r == (39 : Int)) (true = true) (br (decide ((↑(List.length s) : Int) > (100 : Int))) (true = true) (List.length s ≤ (1000000000 : Nat) ∧ br ((numT s).2 != (0 : Int)) (true = true) (scalar r = true ∧ List.length (Array.toList #[(42 : UInt8)]) + List.length (List.map (fun (n : Int) => UInt8.ofNat (Int.toNat n)) (Lib.encodeRuneZ r)) ≤ (9223372036854775807 : Nat) ∧ (((0 : Int) ≤ m ∧ (0 : Int) < (4 : Int)) ∧ inR IntKind.i64 (m % (4 : Int)) ∧ ∃ (j : PLift (PadC r s)), r = r ∧ s = s ∧ two = two ∧ Array.toList #[(42 : UInt8)] ++ List.map (fun (n : Int) => UInt8.ofNat (Int.toNat n)) (Lib.encodeRuneZ r) = starT r ∧ m % (4 : Int) = (2 : Int)) ∧ ∀ (j : PLift (PadC r s)), List.length (([] : List UInt8)) + List.length (Array.toList #[(97 : UInt8)]) ≤ (9223372036854775807 : Nat) ∧ List.length (([] : List UInt8) ++ Array.toList #[(97 : UInt8)]) + List.length (([] : List UInt8)) ≤ (9223372036854775807 : Nat) ∧ List.length (([] : List UInt8) ++ Array.toList #[(97 : UInt8)] ++ ([] : List UInt8)) + List.length s ≤ (9223372036854775807 : Nat) ∧ List.length (([] : List UInt8) ++ Array.toList #[(97 : UInt8)] ++ ([] : List UInt8) ++ s) + List.length (starT r) ≤ (9223372036854775807 : Nat) ∧ List.length (([] : List UInt8) ++ Array.toList #[(97 : UInt8)] ++ ([] : List UInt8) ++ s ++ starT r) + List.length (Array.toList #[(98 : UInt8)]) ≤ (9223372036854775807 : Nat) ∧ List.length (([] : List UInt8) ++ Array.toList #[(97 : UInt8)] ++ ([] : List UInt8) ++ s ++ starT r ++ Array.toList #[(98 : UInt8)]) + List.length (([] : List UInt8)) ≤ (9223372036854775807 : Nat) ∧ br two (List.length v0 + List.length (starT r) ≤ (9223372036854775807 : Nat) ∧ List.length v1 ≤ (1000000 : Nat) ∧ (decide ((compileT v1).2.1 = (7 : Int)) && decide ((compileT v1).2.2 = (↑(List.length v0) : Int))) = true) (List.length v0 ≤ (1000000 : Nat) ∧ br ((compileT v0).2.1 == (0 : Int)) (inR IntKind.i64 ((2 : Int) + (1 : Int)) ∧ br (Pat.pa (compileT v0).1 == (2 : Int) + (1 : Int)) (br (Pat.pd (compileT v0).1 == r) (inR IntKind.i64 ((↑(List.length s) : Int) + (2 : Int)) ∧ (Pat.pw (compileT v0).1 == (↑(List.length s) : Int) + (2 : Int)) = true) (false = true)) (false = true)) (false = true)))))))) := by kernel_rfl
set_option maxHeartbeats 4000000 in
theorem of_pads2 (h : ∀ (r m : Int) (s : List UInt8) (two : Bool), (s.length ≤ 9223372036854775807) → (0 ≤ m) → (m % 4 = 2) → vcP [(21, sp_scalar), (13, sp_ans16), (18, sp_r3num), (22, sp_bytes), (14, sp_pcompile)] [] miscP Tryz.f7 (.cut 8 (PLift (PadC r s)) (fun _ => ⟨[(0, .one (.int .i32 r)), (2, .one (.str s)), (3, .one (.bool two)), (11, .one (.str (starT r))), (12, .one (.int .i64 2))], [], 17⟩) (fun _ => .nil) .nil) [.one (.int .i32 r), .one (.int .u8 m), .one (.str s), .one (.bool two)] (.one (.bool true))) : FnP 7 sp_pads2 := by
  refine fnP_ok (cs := [(21, sp_scalar), (13, sp_ans16), (18, sp_r3num), (22, sp_bytes), (14, sp_pcompile)]) (cas := []) (ms := miscP) (.cons ok_scalar (.cons ok_ans16 (.cons ok_r3num (.cons ok_bytes (.cons ok_pcompile .nil))))) .nil miscP_ok 7 Tryz.f7 (by kernel_rfl) (by kernel_rfl) (by kernel_rfl) (fun | [.one (.int .i32 r), .one (.int .u8 m), .one (.str s), .one (.bool two)] => .cut 8 (PLift (PadC r s)) (fun _ => ⟨[(0, .one (.int .i32 r)), (2, .one (.str s)), (3, .one (.bool two)), (11, .one (.str (starT r))), (12, .one (.int .i64 2))], [], 17⟩) (fun _ => .nil) .nil | _ => .nil) ?_
  intro pvs p r hs hp
  unfold sp_pads2 at hs
  simp only at hs
  split at hs
  · rename_i r m s two
    cases hs
    refine h r m s two ?_ ?_ ?_
    · exact hp.1
    · exact hp.2.1
    · exact hp.2.2
  · cases hs
def sp_pads3 : FSpec := ⟨[], fun | [.one (.int .i32 r), .one (.int .u8 m), .one (.str s), .one (.bool two)] => some ([s.length ≤ 9223372036854775807, 0 ≤ m, m % 4 = 3], .one (.bool true)) | _ => none⟩
theorem vc_pads3 (r m : Int) (s : List UInt8) (two : Bool) : vcP [(21, sp_scalar), (13, sp_ans16), (18, sp_r3num), (22, sp_bytes), (14, sp_pcompile)] [] miscP Tryz.f7 (.cut 8 (PLift (PadC r s)) (fun _ => ⟨[(0, .one (.int .i32 r)), (2, .one (.str s)), (3, .one (.bool two)), (11, .one (.str (starT r))), (12, .one (.int .i64 3))], [], 17⟩) (fun _ => .nil) .nil) [.one (.int .i32 r), .one (.int .u8 m), .one (.str s), .one (.bool two)] (.one (.bool true)) = (letI v0 := (([] : List UInt8) ++ Array.toList #[(97 : UInt8)] ++ ([] : List UInt8) ++ s ++ ([] : List UInt8) ++ Array.toList #[(98 : UInt8)] ++ starT r); letI v1 := (([] : List UInt8) ++ Array.toList #[(97 : UInt8)] ++ ([] : List UInt8) ++ s ++ ([] : List UInt8) ++ Array.toList #[(98 : UInt8)] ++ starT r ++ starT r); (br (!scalar r) (true = true) (br (r == (39 : Int)) (true = true) (br (decide ((↑(List.length s) : Int) > (100 : Int))) (true = true) (List.length s ≤ (1000000000 : Nat) ∧ br ((numT s).2 != (0 : Int)) (true = true) (scalar r = true ∧ List.length (Array.toList #[(42 : UInt8)]) + List.length (List.map (fun (n : Int) => UInt8.ofNat (Int.toNat n)) (Lib.encodeRuneZ r)) ≤ (9223372036854775807 : Nat) ∧ (((0 : Int) ≤ m ∧ (0 : Int) < (4 : Int)) ∧ inR IntKind.i64 (m % (4 : Int)) ∧ ∃ (j : PLift (PadC r s)), r = r ∧ s = s ∧ two = two ∧ Array.toList #[(42 : UInt8)] ++ List.map (fun (n : Int) => UInt8.ofNat (Int.toNat n)) (Lib.encodeRuneZ r) = starT r ∧ m % (4 : Int) = (3 : Int)) ∧ ∀ (j : PLift (PadC r s)), List.length (([] : List UInt8)) + List.length (Array.toList #[(97 : UInt8)]) ≤ (9223372036854775807 : Nat) ∧ List.length (([] : List UInt8) ++ Array.toList #[(97 : UInt8)]) + List.length (([] : List UInt8)) ≤ (9223372036854775807 : Nat) ∧ List.length (([] : List UInt8) ++ Array.toList #[(97 : UInt8)] ++ ([] : List UInt8)) + List.length s ≤ (9223372036854775807 : Nat) ∧ List.length (([] : List UInt8) ++ Array.toList #[(97 : UInt8)] ++ ([] : List UInt8) ++ s) + List.length (([] : List UInt8)) ≤ (9223372036854775807 : Nat) ∧ List.length (([] : List UInt8) ++ Array.toList #[(97 : UInt8)] ++ ([] : List UInt8) ++ s ++ ([] : List UInt8)) + List.length (Array.toList #[(98 : UInt8)]) ≤ (9223372036854775807 : Nat) ∧ List.length (([] : List UInt8) ++ Array.toList #[(97 : UInt8)] ++ ([] : List UInt8) ++ s ++ ([] : List UInt8) ++ Array.toList #[(98 : UInt8)]) + List.length (starT r) ≤ (9223372036854775807 : Nat) ∧ br two (List.length v0 + List.length (starT r) ≤ (9223372036854775807 : Nat) ∧ List.length v1 ≤ (1000000 : Nat) ∧ ((compileT v1).2.1 == (7 : Int)) = true) (List.length v0 ≤ (1000000 : Nat) ∧ br ((compileT v0).2.1 == (0 : Int)) (inR IntKind.i64 ((3 : Int) + (1 : Int)) ∧ br (Pat.pa (compileT v0).1 == (3 : Int) + (1 : Int)) (br (Pat.pd (compileT v0).1 == r) (inR IntKind.i64 ((↑(List.length s) : Int) + (2 : Int)) ∧ (Pat.pw (compileT v0).1 == (↑(List.length s) : Int) + (2 : Int)) = true) (false = true)) (false = true)) (false = true)))))))) := by kernel_rfl
set_option maxHeartbeats 4000000 in
theorem of_pads3 (h : ∀ (r m : Int) (s : List UInt8) (two : Bool), (s.length ≤ 9223372036854775807) → (0 ≤ m) → (m % 4 = 3) → vcP [(21, sp_scalar), (13, sp_ans16), (18, sp_r3num), (22, sp_bytes), (14, sp_pcompile)] [] miscP Tryz.f7 (.cut 8 (PLift (PadC r s)) (fun _ => ⟨[(0, .one (.int .i32 r)), (2, .one (.str s)), (3, .one (.bool two)), (11, .one (.str (starT r))), (12, .one (.int .i64 3))], [], 17⟩) (fun _ => .nil) .nil) [.one (.int .i32 r), .one (.int .u8 m), .one (.str s), .one (.bool two)] (.one (.bool true))) : FnP 7 sp_pads3 := by
  refine fnP_ok (cs := [(21, sp_scalar), (13, sp_ans16), (18, sp_r3num), (22, sp_bytes), (14, sp_pcompile)]) (cas := []) (ms := miscP) (.cons ok_scalar (.cons ok_ans16 (.cons ok_r3num (.cons ok_bytes (.cons ok_pcompile .nil))))) .nil miscP_ok 7 Tryz.f7 (by kernel_rfl) (by kernel_rfl) (by kernel_rfl) (fun | [.one (.int .i32 r), .one (.int .u8 m), .one (.str s), .one (.bool two)] => .cut 8 (PLift (PadC r s)) (fun _ => ⟨[(0, .one (.int .i32 r)), (2, .one (.str s)), (3, .one (.bool two)), (11, .one (.str (starT r))), (12, .one (.int .i64 3))], [], 17⟩) (fun _ => .nil) .nil | _ => .nil) ?_
  intro pvs p r hs hp
  unfold sp_pads3 at hs
  simp only at hs
  split at hs
  · rename_i r m s two
    cases hs
    refine h r m s two ?_ ?_ ?_
    · exact hp.1
    · exact hp.2.1
    · exact hp.2.2
  · cases hs
theorem starT_len (r : Int) : (starT r).length ≤ 5 := by have := (enc_len r).2; unfold starT; simp; omega
theorem pads_text {pa r : Int} {s : List UInt8} (h39 : r ≠ 39) (hs : (numT s).2 = 0) : encs (padPD pa r s).codes = (if pa = 1 then starT r else []) ++ [97] ++ (if pa = 2 then starT r else []) ++ s ++ (if pa = 3 then starT r else []) ++ [98] ++ (if pa = 4 then starT r else []) := by
  have hp : ∀ k, encs (padC k pa r) = if pa = k then starT r else [] := fun k => by
    unfold padC starT
    split
    · rw [encs_cons, encs_one, show enc 42 = [42] by decide]; rfl
    · rfl
  have h1 : encs (itemsC [⟨1, 97⟩]) = [97] := by decide
  have h2 : encs (itemsC [⟨1, 98⟩]) = [98] := by decide
  unfold PD.codes PD.tailC
  show encs (padC 1 pa r ++ (itemsC [⟨1, 97⟩] ++ (padC 2 pa r ++ (cods s ++ (padC 3 pa r ++ (itemsC [⟨1, 98⟩] ++ (padC 4 pa r ++ []))))))) = _
  rw [encs_append, encs_append, encs_append, encs_append, encs_append, encs_append, encs_append, hp, hp, hp, hp, h1, h2, encs_cods hs, encs_nil]
  simp only [List.append_assoc, List.append_nil]
theorem ok_pads0 : FnP 7 sp_pads0 := of_pads0 (by
  intro r m s two hs hm hk
  rw [vc_pads0]
  refine br_of (fun _ => rfl) fun h1 => br_of (fun _ => rfl) fun h2 => br_of (fun _ => rfl) fun h3 => ⟨by simp at h3; omega, br_of (fun _ => rfl) fun h4 => ?_⟩
  have r1 : scalar r = true := by simpa using h1
  have r2 : r ≠ 39 := by simpa using h2
  have s1 : s.length ≤ 100 := by simp at h3; omega
  have s2 : (numT s).2 = 0 := by simpa using h4
  have hl := (enc_len r).2
  have hst := starT_len r
  refine ⟨r1, by show 1 + (enc r).length ≤ _; omega, ⟨⟨hm, by decide⟩, by simp only [inR]; omega, ⟨⟨r1, r2, s1, s2⟩⟩, by and_intros <;> first | rfl | assumption⟩, fun j => ?_⟩
  have l0 : ([] : List UInt8).length = 0 := rfl
  have l1 : (Array.toList #[(97 : UInt8)]).length = 1 := rfl
  have l2 : (Array.toList #[(98 : UInt8)]).length = 1 := rfl
  have ht := pads_text (pa := 1) r2 s2
  have c1 := pads_one (pa := 1) (by decide) r1 s2 s1
  obtain ⟨c2, c3⟩ := pads_two (pa := 1) (by decide) r1 r2 s2 s1
  refine ⟨?_, ?_, ?_, ?_, ?_, ?_, br_of (fun _ => ⟨?_, ?_, ?_⟩) fun _ => ⟨?_, ?_⟩⟩
  iterate 8 (simp only [List.length_append, l0, l1, l2]; omega)
  · rw [ht] at c3
    rw [show compileT (starT r ++ Array.toList #[97] ++ ([] : List UInt8) ++ s ++ ([] : List UInt8) ++ Array.toList #[98] ++ ([] : List UInt8) ++ starT r) = _ from c3 (by decide)]
    simp only [decide_true, Bool.true_and]
    exact decide_eq_true rfl
  · simp only [List.length_append, l0, l1, l2]; omega
  · rw [ht] at c1
    rw [show compileT (starT r ++ Array.toList #[97] ++ ([] : List UInt8) ++ s ++ ([] : List UInt8) ++ Array.toList #[98] ++ ([] : List UInt8)) = ((padPD 1 r s).pat, 0, 0) from c1]
    have w : (padPD 1 r s).pat.pw = (s.length : Int) + 2 := by show (1 : Int) + 1 + s.length = _; omega
    refine br_of (fun _ => ⟨by simp only [inR]; omega, br_of (fun _ => br_of (fun _ => ⟨by simp only [inR]; omega, ?_⟩) fun h => ?_) fun h => ?_⟩) fun h => ?_
    · show ((padPD 1 r s).pat.pw == (s.length : Int) + 2) = true
      rw [w]; simp
    · exact absurd h (by show ¬ (r == r) = false; simp)
    · exact absurd h (show ¬ ((1 : Int) == 0 + 1) = false by decide)
    · exact absurd h (show ¬ ((0 : Int) == 0) = false by decide))
theorem ok_pads1 : FnP 7 sp_pads1 := of_pads1 (by
  intro r m s two hs hm hk
  rw [vc_pads1]
  refine br_of (fun _ => rfl) fun h1 => br_of (fun _ => rfl) fun h2 => br_of (fun _ => rfl) fun h3 => ⟨by simp at h3; omega, br_of (fun _ => rfl) fun h4 => ?_⟩
  have r1 : scalar r = true := by simpa using h1
  have r2 : r ≠ 39 := by simpa using h2
  have s1 : s.length ≤ 100 := by simp at h3; omega
  have s2 : (numT s).2 = 0 := by simpa using h4
  have hl := (enc_len r).2
  have hst := starT_len r
  refine ⟨r1, by show 1 + (enc r).length ≤ _; omega, ⟨⟨hm, by decide⟩, by simp only [inR]; omega, ⟨⟨r1, r2, s1, s2⟩⟩, by and_intros <;> first | rfl | assumption⟩, fun j => ?_⟩
  have l0 : ([] : List UInt8).length = 0 := rfl
  have l1 : (Array.toList #[(97 : UInt8)]).length = 1 := rfl
  have l2 : (Array.toList #[(98 : UInt8)]).length = 1 := rfl
  have ht := pads_text (pa := 2) r2 s2
  have c1 := pads_one (pa := 2) (by decide) r1 s2 s1
  obtain ⟨c2, c3⟩ := pads_two (pa := 2) (by decide) r1 r2 s2 s1
  refine ⟨?_, ?_, ?_, ?_, ?_, ?_, br_of (fun _ => ⟨?_, ?_, ?_⟩) fun _ => ⟨?_, ?_⟩⟩
  iterate 8 (simp only [List.length_append, l0, l1, l2]; omega)
  · rw [ht] at c3
    rw [show compileT (([] : List UInt8) ++ Array.toList #[97] ++ starT r ++ s ++ ([] : List UInt8) ++ Array.toList #[98] ++ ([] : List UInt8) ++ starT r) = _ from c3 (by decide)]
    simp only [decide_true, Bool.true_and]
    exact decide_eq_true rfl
  · simp only [List.length_append, l0, l1, l2]; omega
  · rw [ht] at c1
    rw [show compileT (([] : List UInt8) ++ Array.toList #[97] ++ starT r ++ s ++ ([] : List UInt8) ++ Array.toList #[98] ++ ([] : List UInt8)) = ((padPD 2 r s).pat, 0, 0) from c1]
    have w : (padPD 2 r s).pat.pw = (s.length : Int) + 2 := by show (1 : Int) + 1 + s.length = _; omega
    refine br_of (fun _ => ⟨by simp only [inR]; omega, br_of (fun _ => br_of (fun _ => ⟨by simp only [inR]; omega, ?_⟩) fun h => ?_) fun h => ?_⟩) fun h => ?_
    · show ((padPD 2 r s).pat.pw == (s.length : Int) + 2) = true
      rw [w]; simp
    · exact absurd h (by show ¬ (r == r) = false; simp)
    · exact absurd h (show ¬ ((2 : Int) == 1 + 1) = false by decide)
    · exact absurd h (show ¬ ((0 : Int) == 0) = false by decide))
theorem ok_pads2 : FnP 7 sp_pads2 := of_pads2 (by
  intro r m s two hs hm hk
  rw [vc_pads2]
  refine br_of (fun _ => rfl) fun h1 => br_of (fun _ => rfl) fun h2 => br_of (fun _ => rfl) fun h3 => ⟨by simp at h3; omega, br_of (fun _ => rfl) fun h4 => ?_⟩
  have r1 : scalar r = true := by simpa using h1
  have r2 : r ≠ 39 := by simpa using h2
  have s1 : s.length ≤ 100 := by simp at h3; omega
  have s2 : (numT s).2 = 0 := by simpa using h4
  have hl := (enc_len r).2
  have hst := starT_len r
  refine ⟨r1, by show 1 + (enc r).length ≤ _; omega, ⟨⟨hm, by decide⟩, by simp only [inR]; omega, ⟨⟨r1, r2, s1, s2⟩⟩, by and_intros <;> first | rfl | assumption⟩, fun j => ?_⟩
  have l0 : ([] : List UInt8).length = 0 := rfl
  have l1 : (Array.toList #[(97 : UInt8)]).length = 1 := rfl
  have l2 : (Array.toList #[(98 : UInt8)]).length = 1 := rfl
  have ht := pads_text (pa := 3) r2 s2
  have c1 := pads_one (pa := 3) (by decide) r1 s2 s1
  obtain ⟨c2, c3⟩ := pads_two (pa := 3) (by decide) r1 r2 s2 s1
  refine ⟨?_, ?_, ?_, ?_, ?_, ?_, br_of (fun _ => ⟨?_, ?_, ?_⟩) fun _ => ⟨?_, ?_⟩⟩
  iterate 8 (simp only [List.length_append, l0, l1, l2]; omega)
  · rw [ht] at c3
    rw [show compileT (([] : List UInt8) ++ Array.toList #[97] ++ ([] : List UInt8) ++ s ++ starT r ++ Array.toList #[98] ++ ([] : List UInt8) ++ starT r) = _ from c3 (by decide)]
    simp only [decide_true, Bool.true_and]
    exact decide_eq_true rfl
  · simp only [List.length_append, l0, l1, l2]; omega
  · rw [ht] at c1
    rw [show compileT (([] : List UInt8) ++ Array.toList #[97] ++ ([] : List UInt8) ++ s ++ starT r ++ Array.toList #[98] ++ ([] : List UInt8)) = ((padPD 3 r s).pat, 0, 0) from c1]
    have w : (padPD 3 r s).pat.pw = (s.length : Int) + 2 := by show (1 : Int) + 1 + s.length = _; omega
    refine br_of (fun _ => ⟨by simp only [inR]; omega, br_of (fun _ => br_of (fun _ => ⟨by simp only [inR]; omega, ?_⟩) fun h => ?_) fun h => ?_⟩) fun h => ?_
    · show ((padPD 3 r s).pat.pw == (s.length : Int) + 2) = true
      rw [w]; simp
    · exact absurd h (by show ¬ (r == r) = false; simp)
    · exact absurd h (show ¬ ((3 : Int) == 2 + 1) = false by decide)
    · exact absurd h (show ¬ ((0 : Int) == 0) = false by decide))
theorem ok_pads3 : FnP 7 sp_pads3 := of_pads3 (by
  intro r m s two hs hm hk
  rw [vc_pads3]
  refine br_of (fun _ => rfl) fun h1 => br_of (fun _ => rfl) fun h2 => br_of (fun _ => rfl) fun h3 => ⟨by simp at h3; omega, br_of (fun _ => rfl) fun h4 => ?_⟩
  have r1 : scalar r = true := by simpa using h1
  have r2 : r ≠ 39 := by simpa using h2
  have s1 : s.length ≤ 100 := by simp at h3; omega
  have s2 : (numT s).2 = 0 := by simpa using h4
  have hl := (enc_len r).2
  have hst := starT_len r
  refine ⟨r1, by show 1 + (enc r).length ≤ _; omega, ⟨⟨hm, by decide⟩, by simp only [inR]; omega, ⟨⟨r1, r2, s1, s2⟩⟩, by and_intros <;> first | rfl | assumption⟩, fun j => ?_⟩
  have l0 : ([] : List UInt8).length = 0 := rfl
  have l1 : (Array.toList #[(97 : UInt8)]).length = 1 := rfl
  have l2 : (Array.toList #[(98 : UInt8)]).length = 1 := rfl
  have ht := pads_text (pa := 4) r2 s2
  have c1 := pads_one (pa := 4) (by decide) r1 s2 s1
  obtain ⟨c2, c3⟩ := pads_two (pa := 4) (by decide) r1 r2 s2 s1
  refine ⟨?_, ?_, ?_, ?_, ?_, ?_, br_of (fun _ => ⟨?_, ?_, ?_⟩) fun _ => ⟨?_, ?_⟩⟩
  iterate 8 (simp only [List.length_append, l0, l1, l2]; omega)
  · rw [ht] at c2
    exact decide_eq_true c2
  · simp only [List.length_append, l0, l1, l2]; omega
  · rw [ht] at c1
    rw [show compileT (([] : List UInt8) ++ Array.toList #[97] ++ ([] : List UInt8) ++ s ++ ([] : List UInt8) ++ Array.toList #[98] ++ starT r) = ((padPD 4 r s).pat, 0, 0) from c1]
    have w : (padPD 4 r s).pat.pw = (s.length : Int) + 2 := by show (1 : Int) + 1 + s.length = _; omega
    refine br_of (fun _ => ⟨by simp only [inR]; omega, br_of (fun _ => br_of (fun _ => ⟨by simp only [inR]; omega, ?_⟩) fun h => ?_) fun h => ?_⟩) fun h => ?_
    · show ((padPD 4 r s).pat.pw == (s.length : Int) + 2) = true
      rw [w]; simp
    · exact absurd h (by show ¬ (r == r) = false; simp)
    · exact absurd h (show ¬ ((4 : Int) == 3 + 1) = false by decide)
    · exact absurd h (show ¬ ((0 : Int) == 0) = false by decide))
def sp_lPads : FSpec := ⟨[], fun | [.one (.int .i32 r), .one (.int .u8 m), .one (.str s), .one (.bool two)] => some ([s.length ≤ 9223372036854775807, 0 ≤ m], .one (.bool true)) | _ => none⟩
theorem ok_lPads : FnP 7 sp_lPads := by
  refine ⟨ok_pads0.body, ?_⟩
  intro pvs p x hs hp
  unfold sp_lPads at hs
  simp only at hs
  split at hs
  · rename_i r m s two
    cases hs
    have h1 := hp.1
    have h2 : 0 ≤ m := hp.2
    have : m % 4 = 0 ∨ m % 4 = 1 ∨ m % 4 = 2 ∨ m % 4 = 3 := by omega
    rcases this with e | e | e | e
    · exact ok_pads0.calls [.one (.int .i32 r), .one (.int .u8 m), .one (.str s), .one (.bool two)] [s.length ≤ 9223372036854775807, 0 ≤ m, m % 4 = 0] _ rfl ⟨h1, h2, e⟩
    · exact ok_pads1.calls [.one (.int .i32 r), .one (.int .u8 m), .one (.str s), .one (.bool two)] [s.length ≤ 9223372036854775807, 0 ≤ m, m % 4 = 1] _ rfl ⟨h1, h2, e⟩
    · exact ok_pads2.calls [.one (.int .i32 r), .one (.int .u8 m), .one (.str s), .one (.bool two)] [s.length ≤ 9223372036854775807, 0 ≤ m, m % 4 = 2] _ rfl ⟨h1, h2, e⟩
    · exact ok_pads3.calls [.one (.int .i32 r), .one (.int .u8 m), .one (.str s), .one (.bool two)] [s.length ≤ 9223372036854775807, 0 ≤ m, m % 4 = 3] _ rfl ⟨h1, h2, e⟩
  · cases hs
end Go.Proofs.YtglfkihckkjniaaGreatDoor.Vx
namespace Go.Proofs.YtglfkihckkjniaaGreatDoor.Vx
open Go Go.RowKit Go.ChangeShapes Go.WideShapes Go.ChangeAt Go.WideMaps Go.WideElems
open Go.ChangeMaps (open_string shut_string)
open Go.Lib (array_elem)
theorem returnsInHanded_of_change_both {H : Type} {enc : TypeId × Value → H} {a : Assume} {C : Checked} {os : Os} {f : FuncId} {fn : Func} {s : ChangeSpec} {conds : List PathCond} {apart fresh handsOn again : Bool} {X : World → Array Value → Prop}
    (hX : ∀ (w w' : World) (args : Array Value), w.heap = w'.heap → X w args → X w' args)
    (own : ownKnob C.prog.godebug = none) (started : os.Started) (noInit : C.prog.inits.idxOf? f = none) (hfn : C.prog.funcs[f]? = some fn)
    (witness : ∃ (w : World) (tape : Tape) (i : Input), w.os = os ∧ (w.forCall tape i).Shaped C.prog ∧ i.vars = [] ∧ Input.okWide C.prog (w.forCall tape i) .any w.heap.size f i ∧
      ((s.pre enc C.prog fn conds apart (w.forCall tape i).memory i.args ∧ X (w.forCall tape i).memory i.args) ∧ sizedMet enc C.prog fn (OpenSpec.ofChange s) apart (w.forCall tape i).memory i.args) ∧ a.holds C.prog (lone (Frame.enter C.prog f i.args .normal) [] (w.forCall tape i)))
    (contract : ∀ (W : World) (base : Nat) (args : Array Value) (ds gs : List (DataW H)) (before : List MemPlace),
      (∀ (j : Nat) t v, fn.params[j]? = some t → args[j]? = some v → Value.okWide C.prog W .any base t v) →
      DataW.Whole enc C.prog fn.params.toList s.vars apart W args.toList ds gs before →
      (DataW.weightsEach C.prog (fn.params.toList ++ s.plain.varTypes C.prog) (ds ++ gs)).all (· ≤ reachBytes) = true → X W args → W.ShapedOpen C.prog →
      Calls C.prog f args W fun e W' => ∃ v, e = .returned v ∧ s.post enc C.prog fn apart fresh handsOn again W args v W') :
    ReturnsInHanded a C os f .any (fun w args => (s.pre enc C.prog fn conds apart w args ∧ X w args) ∧ sizedMet enc C.prog fn (OpenSpec.ofChange s) apart w args) (s.post enc C.prog fn apart fresh handsOn again) := by
  refine returnsInHanded_of_calls own started noInit witness ?_
  intro w tape i _ hsh _ hok hpre hholds
  obtain ⟨_, _, _, fn', hfn', _, _, _, _, hval⟩ := hok
  have e : fn' = fn := Option.some.inj (hfn'.symm.trans hfn)
  subst e
  obtain ⟨⟨⟨ds, gs, before, hw, hc⟩, hx⟩, hz⟩ := hpre
  have hw' := DataW.Whole.of_heap (w' := w.forCall tape i) (by rfl) hw
  refine (contract (w.forCall tape i) w.heap.size i.args ds gs before hval hw' (hz.weights hw) (hX _ _ _ (by rfl) hx) hsh).mono fun e W' ⟨v, he, hp⟩ => ?_
  subst he
  exact ChangeSpec.post_blind hp
def laidL : List (String × DataW Unit) := [("unicode/utf8.acceptRanges", Rows.laid_unicode_utf8_acceptRanges), ("figurehead/affix.signs", Rows.laid_figurehead_affix_signs), ("unicode/utf8.first", Rows.laid_unicode_utf8_first)]
theorem own : ownKnob Tryz.prog.godebug = none := by kernel_rfl
theorem laidOut : laidOutB Tryz.prog = true := by kernel_rfl
section
variable {P : Program} {w : World} {base : Nat} {sp : Nat → Bool} {held : Bool}
theorem cells_of_pairs {fuel : Nat} {t e : TypeId} {n : Nat} {f0 f1 : Field} {k0 k1 : IntKind} {cs : List Value} {zs : List (Int × Int)} {p : List MemPlace}
    (ht : P.underlying t = some (.array n e)) (he : P.underlying e = some (.struct #[f0, f1])) (h0 : P.underlying f0.type = some (.int k0)) (h1 : P.underlying f1.type = some (.int k1))
    (o0 : f0.offset = 0) (o1 : f1.offset = 1) (c0 : P.cellsOf f0.type = 1) (c1 : P.cellsOf f1.type = 1) (ce : P.cellsOf e = 2) (ct : P.cellsOf t = n * 2)
    (h : DataW.trod (fun _ => ()) P w base sp held fuel t cs = some (.agg (zs.map fun z => .agg [.lit (.int k0 z.1), .lit (.int k1 z.2)]), p)) : cs = zs.flatMap fun z => [.int k0 z.1, .int k1 z.2] := by
  have hzl : zs.length = n ∧ cs.length = n * 2 := by
    cases fuel with
    | zero => simp [DataW.trod] at h
    | succ fuel =>
      simp only [DataW.trod, ht, ce, ct] at h
      split at h
      · rename_i hl
        obtain ⟨xs, hm, hx⟩ := Option.map_eq_some_iff.1 h
        have hxl : xs.length = n := by simpa using Lib.mapM_length hm
        have h2 := congrArg List.length (show xs.map (·.1) = zs.map fun z => (DataW.agg [.lit (.int k0 z.1), .lit (.int k1 z.2)] : DataW Unit) by simpa using congrArg Prod.fst hx)
        simp at h2
        exact ⟨by omega, by simpa using hl⟩
      · cases h
  have key : ∀ i, i < n → (cs.drop (i * 2)).take 2 = [Value.int k0 (zs.getD i (0, 0)).1, .int k1 (zs.getD i (0, 0)).2] := by
    intro i hi
    obtain ⟨fuel', d, q, hd, hr⟩ := array_elem ht h i hi
    rw [ce] at hr
    rw [List.getElem?_map, List.getElem?_eq_getElem (by omega), Option.map_some, Option.some.injEq] at hd
    subst hd
    rw [List.getD_eq_getElem?_getD, List.getElem?_eq_getElem (by omega), Option.getD_some]
    obtain ⟨xs, m, rfl, hx, hl, hxl, hall⟩ := DataW.trod_struct he hr
    have hx := congrArg Prod.fst hx
    have e0 := hall 0 f0 rfl
    have e1 := hall 1 f1 rfl
    match xs, hxl with
    | [x0, x1], _ =>
      rw [o0, c0] at e0
      rw [o1, c1] at e1
      simp only [List.map_cons, List.map_nil, DataW.agg.injEq, List.cons.injEq, and_true] at hx
      obtain ⟨a0, g1, g2, _⟩ := DataW.trod_int h0 (show DataW.trod _ P w base sp held m f0.type _ = some x0 from e0)
      obtain ⟨a1, g3, g4, _⟩ := DataW.trod_int h1 (show DataW.trod _ P w base sp held m f1.type _ = some x1 from e1)
      have q0 : a0 = (zs[i]'(by omega)).1 := by rw [g2] at hx; simpa using hx.1.symm
      have q1 : a1 = (zs[i]'(by omega)).2 := by rw [g4] at hx; simpa using hx.2.symm
      rw [← q0, ← q1]
      generalize hL : (cs.drop (i * 2)).take 2 = L at g1 g3 hl
      rw [ce] at hl
      match L, hl with
      | [u, v], _ =>
        simp at g1 g3
        rw [g1, g3]
  apply List.ext_getElem?
  intro j
  have hfl : ∀ (zs : List (Int × Int)) (j : Nat), (zs.flatMap fun z => [Value.int k0 z.1, .int k1 z.2])[j]? = if j < zs.length * 2 then some (if j % 2 = 0 then Value.int k0 (zs.getD (j / 2) (0, 0)).1 else .int k1 (zs.getD (j / 2) (0, 0)).2) else none := by
    intro zs
    induction zs with
    | nil => intro j; simp
    | cons z zs ih =>
      intro j
      match j with
      | 0 => simp
      | 1 => simp; omega
      | j + 2 =>
        have e : ((z :: zs).flatMap fun z => [Value.int k0 z.1, .int k1 z.2])[j + 2]? = (zs.flatMap fun z => [Value.int k0 z.1, .int k1 z.2])[j]? := by simp
        rw [e, ih j]
        have e1 : (j + 2) % 2 = j % 2 := by omega
        have e2 : (j + 2) / 2 = j / 2 + 1 := by omega
        have e3 : (j + 2 < (z :: zs).length * 2) ↔ (j < zs.length * 2) := by simp; omega
        rw [e1, e2]
        simp only [e3, List.getD_cons_succ]
  rw [hfl]
  split
  · rename_i hj
    have hk := key (j / 2) (by omega)
    split
    · rename_i h2
      have := congrArg (·[0]?) hk
      simp only [List.getElem?_take, List.getElem?_drop] at this
      have e : j / 2 * 2 + 0 = j := by omega
      rw [e] at this
      simpa using this
    · rename_i h2
      have := congrArg (·[1]?) hk
      simp only [List.getElem?_take, List.getElem?_drop] at this
      have e : j / 2 * 2 + 1 = j := by omega
      rw [e] at this
      simpa using this
  · rw [List.getElem?_eq_none (by omega)]
end
theorem block_of_var {P : Program} {w : World} {n : String} {g : Nat} {cs : Array Value} (hg : P.globalNamed n = some g) (h : w.var? P n = some cs) : ∃ ty fz, w.heap[g]? = some (.cells cs ty fz) := by
  simp only [World.var?, hg, Option.bind_some] at h
  split at h
  · rename_i cs' ty fz e
    cases h
    exact ⟨ty, fz, e⟩
  · cases h
theorem signVals_eq : signVals = ([(2, 45), (3, 43), (4, 37), (5, 8240), (6, 164)] : List (Int × Int)).flatMap fun z => [Value.int .i64 z.1, .int .i32 z.2] := rfl
def rangeZ : List (Int × Int) := (List.range 16).map fun i => (((Lib.accLo i : Nat) : Int), ((Lib.accHi i : Nat) : Int))
theorem rangeVals_eq : rangeVals = rangeZ.flatMap fun z => [Value.int .u8 z.1, .int .u8 z.2] := by kernel_rfl
theorem laid_range : (Rows.laid_unicode_utf8_acceptRanges : DataW Unit) = .agg (rangeZ.map fun z => .agg [.lit (.int .u8 z.1), .lit (.int .u8 z.2)]) := by kernel_rfl
theorem laid_signs : (Rows.laid_figurehead_affix_signs : DataW Unit) = .agg (([(2, 45), (3, 43), (4, 37), (5, 8240), (6, 164)] : List (Int × Int)).map fun z => .agg [.lit (.int .i64 z.1), .lit (.int .i32 z.2)]) := rfl
theorem laid_first : Rows.laid_unicode_utf8_first = Lib.firstData := Pinned.utf8First_eq
theorem firstVals_eq : firstVals = Lib.firstTab.map fun z => Value.int .u8 z := by kernel_rfl
theorem zglob_signs {W : World} (h : Lib.VarReads Tryz.prog W "figurehead/affix.signs" (.agg (([(2, 45), (3, 43), (4, 37), (5, 8240), (6, 164)] : List (Int × Int)).map fun z => .agg [.lit (.int .i64 z.1), .lit (.int .i32 z.2)]))) :
    ∃ (cs : List Value) (ty : TypeId) (fz : Nat × Nat), W.heap[(0 : Nat)]? = some (.cells cs.toArray ty fz) ∧ cs = signVals := by
  obtain ⟨g, t, cs, fuel, p, hg, hty, hvar, hd⟩ := h
  obtain rfl := Option.some.inj ((show Tryz.prog.globalNamed "figurehead/affix.signs" = some 0 by kernel_rfl).symm.trans hg)
  obtain rfl := Option.some.inj ((show (Tryz.prog.globals[(0 : Nat)]?).map (·.type) = some 159 by kernel_rfl).symm.trans hty)
  obtain ⟨ty, fz, hb⟩ := block_of_var hg hvar
  refine ⟨cs.toList, ty, fz, hb, ?_⟩
  rw [signVals_eq]
  exact cells_of_pairs (n := 5) (e := 79) (f0 := { name := "Kind", type := 3, offset := 0, embedded := false, tag := "", pkgPath := "", byteOffset := 0 }) (f1 := { name := "R", type := 21, offset := 1, embedded := false, tag := "", pkgPath := "", byteOffset := 8 }) (by kernel_rfl) (by kernel_rfl) (by kernel_rfl) (by kernel_rfl) rfl rfl (by kernel_rfl) (by kernel_rfl) (by kernel_rfl) (by kernel_rfl) hd
theorem zglob_range {W : World} (h : Lib.VarReads Tryz.prog W "unicode/utf8.acceptRanges" (.agg (rangeZ.map fun z => .agg [.lit (.int .u8 z.1), .lit (.int .u8 z.2)]))) :
    ∃ (cs : List Value) (ty : TypeId) (fz : Nat × Nat), W.heap[(2 : Nat)]? = some (.cells cs.toArray ty fz) ∧ cs = rangeVals := by
  obtain ⟨g, t, cs, fuel, p, hg, hty, hvar, hd⟩ := h
  obtain rfl := Option.some.inj ((show Tryz.prog.globalNamed "unicode/utf8.acceptRanges" = some 2 by kernel_rfl).symm.trans hg)
  obtain rfl := Option.some.inj ((show (Tryz.prog.globals[(2 : Nat)]?).map (·.type) = some 185 by kernel_rfl).symm.trans hty)
  obtain ⟨ty, fz, hb⟩ := block_of_var hg hvar
  refine ⟨cs.toList, ty, fz, hb, ?_⟩
  rw [rangeVals_eq]
  exact cells_of_pairs (n := 16) (e := 184) (f0 := { name := "lo", type := 5, offset := 0, embedded := false, tag := "", pkgPath := "unicode/utf8", byteOffset := 0 }) (f1 := { name := "hi", type := 5, offset := 1, embedded := false, tag := "", pkgPath := "unicode/utf8", byteOffset := 1 }) (by kernel_rfl) (by kernel_rfl) (by kernel_rfl) (by kernel_rfl) rfl rfl (by kernel_rfl) (by kernel_rfl) (by kernel_rfl) (by kernel_rfl) hd
theorem zglob_first {W : World} (h : Lib.VarReads Tryz.prog W "unicode/utf8.first" Lib.firstData) :
    ∃ (cs : List Value) (ty : TypeId) (fz : Nat × Nat), W.heap[(1 : Nat)]? = some (.cells cs.toArray ty fz) ∧ cs = firstVals := by
  obtain ⟨g, t, cs, fuel, p, hg, hty, hvar, hd⟩ := h
  obtain rfl := Option.some.inj ((show Tryz.prog.globalNamed "unicode/utf8.first" = some 1 by kernel_rfl).symm.trans hg)
  obtain rfl := Option.some.inj ((show (Tryz.prog.globals[(1 : Nat)]?).map (·.type) = some 182 by kernel_rfl).symm.trans hty)
  obtain ⟨ty, fz, hb⟩ := block_of_var hg hvar
  refine ⟨cs.toList, ty, fz, hb, ?_⟩
  rw [firstVals_eq]
  exact Lib.cells_of_tab (n := 256) (e := 5) (by kernel_rfl) (by kernel_rfl) (by kernel_rfl) (by kernel_rfl) hd
theorem zglob_max {W : World} (hsh : W.ShapedOpen Tryz.prog) : ∃ (cs : List Value) (ty : TypeId) (fz : Nat × Nat), W.heap[(3 : Nat)]? = some (.cells cs.toArray ty fz) ∧ ∃ m, cs = [.int .i64 m] := by
  obtain ⟨m, hm⟩ := cell_of_shapedOpen_int (g := 3) (t := 3) (zero := #[.int .i64 0]) (k := .i64) hsh (Nat.le_of_ble_eq_true (by kernel_rfl)) (by kernel_rfl) rfl (by kernel_rfl) (by kernel_rfl) (by kernel_rfl)
  obtain ⟨cs, hh, hs, _⟩ := hsh.1 3 #[.int .i64 0] 3 (Nat.le_of_ble_eq_true (by kernel_rfl)) (by kernel_rfl)
  refine ⟨cs.toList, _, _, hh, m, ?_⟩
  simp only [World.cell?, hh] at hm
  have h1 : cs.size = 1 := hs
  obtain ⟨l⟩ := cs
  match l, h1, hm with
  | [x], _, hm => simp at hm; rw [hm]
theorem zglob_of {W : World} (hL : laidMet Tryz.prog laidL W) (hsh : W.ShapedOpen Tryz.prog) : Glob Gl W := by
  have h1 := Lib.laidMet.reads hL (n := "unicode/utf8.acceptRanges") (d := Rows.laid_unicode_utf8_acceptRanges) (by simp [laidL])
  have h2 := Lib.laidMet.reads hL (n := "figurehead/affix.signs") (d := Rows.laid_figurehead_affix_signs) (by simp [laidL])
  have h3 := Lib.laidMet.reads hL (n := "unicode/utf8.first") (d := Rows.laid_unicode_utf8_first) (by simp [laidL])
  rw [laid_range] at h1
  rw [laid_signs] at h2
  rw [laid_first] at h3
  intro p hp
  simp only [Gl, List.mem_cons, List.not_mem_nil, or_false] at hp
  rcases hp with rfl | rfl | rfl | rfl
  · exact zglob_signs h2
  · exact zglob_first h3
  · exact zglob_range h1
  · exact zglob_max hsh
end Go.Proofs.YtglfkihckkjniaaGreatDoor.Vx
namespace Go.Proofs.YtglfkihckkjniaaGreatDoor.Vx
open Go Go.RowKit Go.ChangeShapes Go.WideShapes Go.ChangeAt Go.WideMaps Go.WideElems Go.Deep
section
variable {H : Type} {enc : TypeId × Value → H}
theorem shut_same {W W' : World} {t : TypeId} {v : Value} {d : DataW H} {ps : List MemPlace} (hr : Tryz.prog.readableRec t = true) (hrow : t < Tryz.prog.types.size) (h : DataW.Trod enc Tryz.prog W 0 (fun _ => true) true t v d ps) (hb : Below W.heap.size W W') :
    DataW.Trod enc Tryz.prog W' 0 (fun b => decide (b < W.heap.size)) true t v d ps := by
  refine Below.trod laidOut hr hrow h hb ?_
  obtain ⟨n, hn⟩ := h
  exact DataW.trod_lt n _ _ _ hn
theorem int_ge {k : IntKind} {n : Int} (h : (Lit.int k n).wf = true) : k.min ≤ n := by
  unfold Lit.wf at h
  simp only [Bool.and_eq_true, decide_eq_true_eq] at h
  exact h.1
theorem str_le {s : ByteArray} (h : s.size ≤ maxLen) : s.data.toList.length ≤ 9223372036854775807 := h
end
end Go.Proofs.YtglfkihckkjniaaGreatDoor.Vx
namespace Go.Proofs.YtglfkihckkjniaaGreatDoor
open Go Go.RowKit Go.ChangeShapes Go.WideShapes Go.ChangeAt Go.WideMaps Go.WideElems
open Go.ChangeMaps (open_string shut_string)
theorem patternPads_lifted (os : Os) (started : os.Started) (H : Type) (enc : TypeId × Value → H) :
    ReturnsInHanded {} Tryz.checked os 7 .any (fun w args => (Rows.patternPadsSpec.pre enc Tryz.prog Tryz.f7 [] false w args ∧ laidMetH Tryz.prog Vx.laidL w) ∧ sizedMet enc Tryz.prog Tryz.f7 (OpenSpec.ofChange Rows.patternPadsSpec) false w args)
      (Rows.patternPadsSpec.post enc Tryz.prog Tryz.f7 false true false false) := by
  refine Vx.returnsInHanded_of_change_both (C := Tryz.checked) (X := fun w _ => laidMetH Tryz.prog Vx.laidL w) (fun _ _ _ hh h => h.of_heap hh) Vx.own started (by kernel_rfl) Tryz.func7
    (ChangeSpec.witness_shaped (enc := enc) (C := Tryz.checked) (os := os) (X := fun w _ => laidMetH Tryz.prog Vx.laidL w) false (World.laidAll Tryz.prog os Vx.laidL) #[.int .i32 0, .int .u8 0, .string ⟨#[]⟩, .bool false] 8 (World.laidAll_os _ _ _)
      (World.shaped_of_ZipB (by kernel_rfl) (by kernel_rfl)) (by kernel_rfl) (by kernel_rfl) (by kernel_rfl)
      (by rw [MakeChecks.laidMetH_plain _ _ _ (by kernel_rfl)]; exact laidMet_laidAll _ (by kernel_rfl) (by kernel_rfl))) ?_
  intro W base args ds gs before hval0 hW hwt hL hsh
  have hval : ∀ (j : Nat) t v, (Tryz.f7).params[j]? = some t → args[j]? = some v → Value.okWide Tryz.prog W .any base t v := hval0
  have hW' := hW
  obtain ⟨p, q, hA0, hV, rfl, _, _⟩ := hW
  have hA : DataW.TrodAll enc Tryz.prog W 0 (fun _ => true) true (Tryz.f7).params.toList args.toList ds p := hA0
  rw [Tryz.params7] at hA hval hwt
  obtain ⟨v0, vs0, d0, ds0, p0, q0, ea0, ed0, ep0, h0, hr0⟩ := trodAll_cons hA
  obtain ⟨v1, vs1, d1, ds1, p1, q1, ea1, ed1, ep1, h1, hr1⟩ := trodAll_cons hr0
  obtain ⟨v2, vs2, d2, ds2, p2, q2, ea2, ed2, ep2, h2, hr2⟩ := trodAll_cons hr1
  obtain ⟨v3, vs3, d3, ds3, p3, q3, ea3, ed3, ep3, h3, hr3⟩ := trodAll_cons hr2
  obtain ⟨ea4, ed4, ep4⟩ := trodAll_nil hr3
  subst ea4; subst ed4; subst ep4
  subst ea3; subst ed3; subst ep3
  subst ea2; subst ed2; subst ep2
  subst ea1; subst ed1; subst ep1
  obtain rfl : args = #[v0, v1, v2, v3] := by cases args; simp_all
  subst ed0; subst ep0
  obtain ⟨rfl, rfl⟩ := trodVars_none hV
  have g0 := h0
  obtain ⟨n0, rfl, rfl, rfl, wn0⟩ := open_int Tryz.underlying21 (hval 0 _ v0 rfl rfl) h0
  have g1 := h1
  obtain ⟨n1, rfl, rfl, rfl, wn1⟩ := open_int Tryz.underlying5 (hval 1 _ v1 rfl rfl) h1
  have g2 := h2
  obtain ⟨s2, rfl, rfl, rfl, ws2⟩ := open_string Tryz.underlying9 (hval 2 9 v2 rfl rfl) h2
  have g3 := h3
  obtain ⟨b3, rfl, rfl, rfl⟩ := open_bool Tryz.underlying4 (hval 3 _ v3 rfl rfl) h3
  rw [MakeChecks.laidMetH_plain _ _ _ (by kernel_rfl)] at hL
  have hG := Vx.zglob_of hL hsh
  refine (Vx.ok_lPads.calls [.one (.int .i32 n0), .one (.int .u8 n1), .one (.str s2.data.toList), .one (.bool b3)] _ _ rfl ?_ W (fun _ => True) [.int .i32 n0, .int .u8 n1, .string s2, .bool b3] hG (.cons rfl (.cons rfl (.cons rfl (.cons rfl .nil))))).mono fun e W' ⟨v, he, hf, hr⟩ => ?_
  · exact ⟨Vx.str_le ws2, Vx.int_ge wn1⟩
  · subst he
    have hv : v = .bool true := hr
    subst hv
    have hb := hf.toBelow
    exact ⟨_, rfl, _, _, _, [], _, [], hW', trodAll_mk1 (shut_bool Tryz.underlying4 _), (trodAll_cons_mk (Vx.shut_same (by kernel_rfl) (of_decide_eq_true (by kernel_rfl)) g0 hb) (trodAll_cons_mk (Vx.shut_same (by kernel_rfl) (of_decide_eq_true (by kernel_rfl)) g1 hb) (trodAll_cons_mk (Vx.shut_same (by kernel_rfl) (of_decide_eq_true (by kernel_rfl)) g2 hb) (trodAll_cons_mk (Vx.shut_same (by kernel_rfl) (of_decide_eq_true (by kernel_rfl)) g3 hb) trodAll_mk0)))), rfl, hb.frame _, fun h => by cases h⟩
theorem patternPads_row : Rows.PatternPadsSaid :=
  OpenClaim.holds_of_wide 7 Tryz.f7 rfl rfl rfl rfl rfl rfl rfl ⟨rfl, rfl, rfl, rfl, rfl⟩ rfl rfl rfl rfl rfl (by kernel_rfl) Tryz.func7 (by kernel_rfl)
    (of_decide_eq_true (by kernel_rfl)) (by unfold Func.isWrapper; first | (rw [if_pos (by decide +kernel)]; kernel_rfl) | (rw [if_neg (by decide +kernel)]; exact ⟨rfl, rfl⟩))
    (fun os started H enc _ => patternPads_lifted os started H enc)
theorem patternPads_holds : Rows.PatternPadsCardSaid :=
  Claim7.holds_tied_plain_at .later [] [.data, .data, .pinned] true (true, "efc9b9724901080112084f73a697328dd09578dd28719bb0ac9c248973d7dd84") true
    patternPads_row (fun _ h => by cases h) (by kernel_rfl) (fun _ h => by cases h) patternPads_row_tie rfl ⟨rfl, rfl⟩ (by kernel_rfl) rfl
    (fun f fn hf hfn => by
      obtain rfl : f = 7 := Option.some.inj ((show Tryz.prog.funcNamed "figurehead/figureheadlaw16.PatternPads" = some 7 by kernel_rfl).symm.trans hf) |>.symm
      obtain rfl : fn = Tryz.f7 := (Option.some.inj (Tryz.func7.symm.trans hfn)).symm
      exact ⟨by kernel_rfl, fun j t ht => by
        rw [Tryz.params7] at ht
        have hm : t ∈ [21, 5, 9, 4] := by simpa using Array.mem_of_getElem? ht
        have hall : ([21, 5, 9, 4].all fun u => !(Tryz.prog).wantsStandIn u) = true := by kernel_rfl
        exact (show (Tryz.prog).wantsStandIn t = false by simpa using List.all_eq_true.1 hall t hm)⟩)
    (by kernel_rfl)
#print axioms patternPads_holds
end Go.Proofs.YtglfkihckkjniaaGreatDoor
